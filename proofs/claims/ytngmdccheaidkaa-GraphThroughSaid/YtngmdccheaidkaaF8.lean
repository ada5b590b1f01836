-- printed by this session's own turn of print (wip/tools/mkprint.py)
import Derived.Test.YtngmdccheaidkaaF
import Derived.Test.YtngmdccheaidkaaF14
import Derived.Test.YtngmdccheaidkaaF15
import Derived.Test.YtngmdccheaidkaaF19
import Derived.Test.YtngmdccheaidkaaF20
import Derived.Test.YtngmdccheaidkaaF22
namespace Go.Proofs.Ytngmdccheaidkaa.Pr
open Go.RowKit Go.Proofs.YtngmdccheaidkaaW.PrintWords Go.Proofs.YtngmdccheaidkaaW.PrintLast Go.Proofs.YtngmdccheaidkaaW.PrintMore
attribute [local go_sem] max2_int min2_int max_two min_two max_three min_three max_four min_four   -- for this text's walks alone
set_option linter.unusedVariables false
set_option linter.unusedSimpArgs false

/-! ### lambrequinlaw10_GraphThrough: function 8 -/
mutual
def lambrequinlaw10_GraphThrough.j0 : Nat → Bool → Int → List (S27) → Int → Int → List Bool → List Bool → Bool → Option (Bool)
  | 0, _, _, _, _, _, _, _, _ => none
  | k + 1, x9, x10, x11, x12, x13, x14, x15, x51 => if x51 = true then (some false) else (lambrequinlaw10_GraphThrough.l0 k x9 x10 x11 x12 x13 x14 x15 0)
def lambrequinlaw10_GraphThrough.l0 : Nat → Bool → Int → List (S27) → Int → Int → List Bool → List Bool → Int → Option (Bool)
  | 0, _, _, _, _, _, _, _, _ => none
  | k + 1, x9, x10, x11, x12, x13, x14, x15, x16 => if x16 < x10 then (if 0 ≤ x13 then (if x13 < (x14.length : Int) then (if rdOf false x14 x13 = true then (if 0 ≤ x16 then (if x16 < (x15.length : Int) then (if rdOf false x15 x16 = true then (if x16 < (x14.length : Int) then (if rdOf false x14 x16 = true then (lambrequinlaw10_GraphThrough.l0 k x9 x10 x11 x12 x13 x14 x15 (wrap64 (x16 + 1))) else (some false)) else (none)) else (lambrequinlaw10_GraphThrough.l0 k x9 x10 x11 x12 x13 x14 x15 (wrap64 (x16 + 1)))) else (none)) else (none)) else (lambrequinlaw10_GraphThrough.l0 k x9 x10 x11 x12 x13 x14 x15 (wrap64 (x16 + 1)))) else (none)) else (none)) else ((graph_Path.f k x10 x11 x12 x13).bind fun t529 => (lambrequinlaw10_GraphThrough.l1 k x9 x10 x11 x12 x13 t529 0))
def lambrequinlaw10_GraphThrough.l1 : Nat → Bool → Int → List (S27) → Int → Int → List Int → Int → Option (Bool)
  | 0, _, _, _, _, _, _, _ => none
  | k + 1, x9, x10, x11, x12, x13, x17, x18 => if x18 < (x17.length : Int) then (if 0 ≤ x18 then (if (rd x17 x18) < 0 then (lambrequinlaw10_GraphThrough.j3 k x9 x10 x11 x12 x13 x17 x18 true) else (lambrequinlaw10_GraphThrough.j3 k x9 x10 x11 x12 x13 x17 x18 (decide ((rd x17 x18) ≥ x10)))) else (none)) else (some x9)
def lambrequinlaw10_GraphThrough.j3 : Nat → Bool → Int → List (S27) → Int → Int → List Int → Int → Bool → Option (Bool)
  | 0, _, _, _, _, _, _, _, _ => none
  | k + 1, x9, x10, x11, x12, x13, x17, x18, x97 => if x97 = true then (some false) else (if 0 ≤ x18 then (if x18 < (x17.length : Int) then ((graph_Path.f k x10 x11 x12 (rd x17 x18)).bind fun t535 => (if 0 ≤ (wrap64 (x18 + 1)) then (if (wrap64 (x18 + 1)) ≤ (x17.length : Int) then ((lambrequinref10_Ints.f k t535 (x17.take ((wrap64 (x18 + 1)) : Int).toNat)).bind fun t542 => (if t542 = true then ((graph_Path.f k x10 x11 (rd x17 x18) x13).bind fun t544 => (if (t544.length : Int) = (wrap64 ((x17.length : Int) - x18)) then (lambrequinlaw10_GraphThrough.l1 k x9 x10 x11 x12 x13 x17 (wrap64 (x18 + 1))) else (some false))) else (some false))) else (none)) else (none))) else (none)) else (none))
end
def lambrequinlaw10_GraphThrough.f (k : Nat) (a0 : Int) (l1 : List (S45)) (a2 : Int) (a3 : Int) : Option (Bool) := (lambrequinlaw10_shown.f k).bind fun t515 => ((lambrequinlaw10_ends.f k a0 l1).bind fun bt516 => (if bt516.1 = 0 then (none) else ((graph_Reach.f k bt516.1 bt516.2 (Int.tmod (wrap64 (a2)) bt516.1)).bind fun t520 => ((graph_Reach.f k bt516.1 bt516.2 (Int.tmod (wrap64 (a3)) bt516.1)).bind fun t523 => (if (t520.length : Int) = bt516.1 then (lambrequinlaw10_GraphThrough.j0 k t515 bt516.1 bt516.2 (Int.tmod (wrap64 (a2)) bt516.1) (Int.tmod (wrap64 (a3)) bt516.1) t520 t523 ((t523.length : Int) != bt516.1)) else (lambrequinlaw10_GraphThrough.j0 k t515 bt516.1 bt516.2 (Int.tmod (wrap64 (a2)) bt516.1) (Int.tmod (wrap64 (a3)) bt516.1) t520 t523 true))))))
theorem lambrequinlaw10_GraphThrough.mono_l : ∀ k, (∀ y0 y1 y2 y3 y4 y5 y6 y7, LeO (lambrequinlaw10_GraphThrough.j0 k y0 y1 y2 y3 y4 y5 y6 y7) (lambrequinlaw10_GraphThrough.j0 (k + 1) y0 y1 y2 y3 y4 y5 y6 y7)) ∧ (∀ y0 y1 y2 y3 y4 y5 y6 y7, LeO (lambrequinlaw10_GraphThrough.l0 k y0 y1 y2 y3 y4 y5 y6 y7) (lambrequinlaw10_GraphThrough.l0 (k + 1) y0 y1 y2 y3 y4 y5 y6 y7)) ∧ (∀ y0 y1 y2 y3 y4 y5 y6, LeO (lambrequinlaw10_GraphThrough.l1 k y0 y1 y2 y3 y4 y5 y6) (lambrequinlaw10_GraphThrough.l1 (k + 1) y0 y1 y2 y3 y4 y5 y6)) ∧ (∀ y0 y1 y2 y3 y4 y5 y6 y7, LeO (lambrequinlaw10_GraphThrough.j3 k y0 y1 y2 y3 y4 y5 y6 y7) (lambrequinlaw10_GraphThrough.j3 (k + 1) y0 y1 y2 y3 y4 y5 y6 y7))
  | 0 => ⟨fun _ _ _ _ _ _ _ _ r h => by simp [lambrequinlaw10_GraphThrough.j0] at h, fun _ _ _ _ _ _ _ _ r h => by simp [lambrequinlaw10_GraphThrough.l0] at h, fun _ _ _ _ _ _ _ r h => by simp [lambrequinlaw10_GraphThrough.l1] at h, fun _ _ _ _ _ _ _ _ r h => by simp [lambrequinlaw10_GraphThrough.j3] at h⟩
  | k + 1 => by
    obtain ⟨ih0, ih1, ih2, ih3⟩ := lambrequinlaw10_GraphThrough.mono_l k
    refine ⟨?_, ?_, ?_, ?_⟩
    · intro y0 y1 y2 y3 y4 y5 y6 y7
      unfold lambrequinlaw10_GraphThrough.j0
      repeat' first
      | (with_reducible exact ih0 _ _ _ _ _ _ _ _)
      | (with_reducible exact ih1 _ _ _ _ _ _ _ _)
      | (with_reducible exact ih2 _ _ _ _ _ _ _)
      | (with_reducible exact ih3 _ _ _ _ _ _ _ _)
      | (with_reducible exact graph_Path.mono _ _ _ _ _)
      | (with_reducible exact graph_Reach.mono _ _ _ _)
      | (with_reducible exact lambrequinlaw10_ends.mono _ _ _)
      | (with_reducible exact lambrequinlaw10_shown.mono _)
      | (with_reducible exact lambrequinref10_Ints.mono _ _ _)
      | (with_reducible exact LeO.refl _)
      | (with_reducible exact LeO.none _)
      | (with_reducible refine LeO.ite ?_ ?_)
      | (with_reducible refine LeO.bind ?_ (fun _ => ?_))
      | exact ih0 _ _ _ _ _ _ _ _
      | exact ih1 _ _ _ _ _ _ _ _
      | exact ih2 _ _ _ _ _ _ _
      | exact ih3 _ _ _ _ _ _ _ _
      | exact graph_Path.mono _ _ _ _ _
      | exact graph_Reach.mono _ _ _ _
      | exact lambrequinlaw10_ends.mono _ _ _
      | exact lambrequinlaw10_shown.mono _
      | exact lambrequinref10_Ints.mono _ _ _
      | exact LeO.none _
      | refine LeO.ite ?_ ?_
      | refine LeO.bind ?_ (fun _ => ?_)
    · intro y0 y1 y2 y3 y4 y5 y6 y7
      unfold lambrequinlaw10_GraphThrough.l0
      repeat' first
      | (with_reducible exact ih0 _ _ _ _ _ _ _ _)
      | (with_reducible exact ih1 _ _ _ _ _ _ _ _)
      | (with_reducible exact ih2 _ _ _ _ _ _ _)
      | (with_reducible exact ih3 _ _ _ _ _ _ _ _)
      | (with_reducible exact graph_Path.mono _ _ _ _ _)
      | (with_reducible exact graph_Reach.mono _ _ _ _)
      | (with_reducible exact lambrequinlaw10_ends.mono _ _ _)
      | (with_reducible exact lambrequinlaw10_shown.mono _)
      | (with_reducible exact lambrequinref10_Ints.mono _ _ _)
      | (with_reducible exact LeO.refl _)
      | (with_reducible exact LeO.none _)
      | (with_reducible refine LeO.ite ?_ ?_)
      | (with_reducible refine LeO.bind ?_ (fun _ => ?_))
      | exact ih0 _ _ _ _ _ _ _ _
      | exact ih1 _ _ _ _ _ _ _ _
      | exact ih2 _ _ _ _ _ _ _
      | exact ih3 _ _ _ _ _ _ _ _
      | exact graph_Path.mono _ _ _ _ _
      | exact graph_Reach.mono _ _ _ _
      | exact lambrequinlaw10_ends.mono _ _ _
      | exact lambrequinlaw10_shown.mono _
      | exact lambrequinref10_Ints.mono _ _ _
      | exact LeO.none _
      | refine LeO.ite ?_ ?_
      | refine LeO.bind ?_ (fun _ => ?_)
    · intro y0 y1 y2 y3 y4 y5 y6
      unfold lambrequinlaw10_GraphThrough.l1
      repeat' first
      | (with_reducible exact ih0 _ _ _ _ _ _ _ _)
      | (with_reducible exact ih1 _ _ _ _ _ _ _ _)
      | (with_reducible exact ih2 _ _ _ _ _ _ _)
      | (with_reducible exact ih3 _ _ _ _ _ _ _ _)
      | (with_reducible exact graph_Path.mono _ _ _ _ _)
      | (with_reducible exact graph_Reach.mono _ _ _ _)
      | (with_reducible exact lambrequinlaw10_ends.mono _ _ _)
      | (with_reducible exact lambrequinlaw10_shown.mono _)
      | (with_reducible exact lambrequinref10_Ints.mono _ _ _)
      | (with_reducible exact LeO.refl _)
      | (with_reducible exact LeO.none _)
      | (with_reducible refine LeO.ite ?_ ?_)
      | (with_reducible refine LeO.bind ?_ (fun _ => ?_))
      | exact ih0 _ _ _ _ _ _ _ _
      | exact ih1 _ _ _ _ _ _ _ _
      | exact ih2 _ _ _ _ _ _ _
      | exact ih3 _ _ _ _ _ _ _ _
      | exact graph_Path.mono _ _ _ _ _
      | exact graph_Reach.mono _ _ _ _
      | exact lambrequinlaw10_ends.mono _ _ _
      | exact lambrequinlaw10_shown.mono _
      | exact lambrequinref10_Ints.mono _ _ _
      | exact LeO.none _
      | refine LeO.ite ?_ ?_
      | refine LeO.bind ?_ (fun _ => ?_)
    · intro y0 y1 y2 y3 y4 y5 y6 y7
      unfold lambrequinlaw10_GraphThrough.j3
      repeat' first
      | (with_reducible exact ih0 _ _ _ _ _ _ _ _)
      | (with_reducible exact ih1 _ _ _ _ _ _ _ _)
      | (with_reducible exact ih2 _ _ _ _ _ _ _)
      | (with_reducible exact ih3 _ _ _ _ _ _ _ _)
      | (with_reducible exact graph_Path.mono _ _ _ _ _)
      | (with_reducible exact graph_Reach.mono _ _ _ _)
      | (with_reducible exact lambrequinlaw10_ends.mono _ _ _)
      | (with_reducible exact lambrequinlaw10_shown.mono _)
      | (with_reducible exact lambrequinref10_Ints.mono _ _ _)
      | (with_reducible exact LeO.refl _)
      | (with_reducible exact LeO.none _)
      | (with_reducible refine LeO.ite ?_ ?_)
      | (with_reducible refine LeO.bind ?_ (fun _ => ?_))
      | exact ih0 _ _ _ _ _ _ _ _
      | exact ih1 _ _ _ _ _ _ _ _
      | exact ih2 _ _ _ _ _ _ _
      | exact ih3 _ _ _ _ _ _ _ _
      | exact graph_Path.mono _ _ _ _ _
      | exact graph_Reach.mono _ _ _ _
      | exact lambrequinlaw10_ends.mono _ _ _
      | exact lambrequinlaw10_shown.mono _
      | exact lambrequinref10_Ints.mono _ _ _
      | exact LeO.none _
      | refine LeO.ite ?_ ?_
      | refine LeO.bind ?_ (fun _ => ?_)
theorem lambrequinlaw10_GraphThrough.mono : ∀ a0 a1 a2 a3 k, LeO (lambrequinlaw10_GraphThrough.f k a0 a1 a2 a3) (lambrequinlaw10_GraphThrough.f (k + 1) a0 a1 a2 a3) := by
  intro a0 a1 a2 a3 k
  obtain ⟨ih0, ih1, ih2, ih3⟩ := lambrequinlaw10_GraphThrough.mono_l k
  unfold lambrequinlaw10_GraphThrough.f
  repeat' first
      | (with_reducible exact ih0 _ _ _ _ _ _ _ _)
      | (with_reducible exact ih1 _ _ _ _ _ _ _ _)
      | (with_reducible exact ih2 _ _ _ _ _ _ _)
      | (with_reducible exact ih3 _ _ _ _ _ _ _ _)
      | (with_reducible exact graph_Path.mono _ _ _ _ _)
      | (with_reducible exact graph_Reach.mono _ _ _ _)
      | (with_reducible exact lambrequinlaw10_ends.mono _ _ _)
      | (with_reducible exact lambrequinlaw10_shown.mono _)
      | (with_reducible exact lambrequinref10_Ints.mono _ _ _)
      | (with_reducible exact LeO.refl _)
      | (with_reducible exact LeO.none _)
      | (with_reducible refine LeO.ite ?_ ?_)
      | (with_reducible refine LeO.bind ?_ (fun _ => ?_))
      | exact ih0 _ _ _ _ _ _ _ _
      | exact ih1 _ _ _ _ _ _ _ _
      | exact ih2 _ _ _ _ _ _ _
      | exact ih3 _ _ _ _ _ _ _ _
      | exact graph_Path.mono _ _ _ _ _
      | exact graph_Reach.mono _ _ _ _
      | exact lambrequinlaw10_ends.mono _ _ _
      | exact lambrequinlaw10_shown.mono _
      | exact lambrequinref10_Ints.mono _ _ _
      | exact LeO.none _
      | refine LeO.ite ?_ ?_
      | refine LeO.bind ?_ (fun _ => ?_)
def lambrequinlaw10_GraphThrough.T20 : Bool × List (List Nat × List Nat) := (true, [([], []), ([], []), ([], []), ([], []), ([], []), ([3, 4], [3, 4]), ([5], [5]), ([0, 1, 2, 6], [0, 1, 2, 6]), ([], []), ([], []), ([9], [9]), ([8, 10], [8, 10]), ([7, 11, 7], [7, 11]), ([12], [12]), ([13, 12], [13]), ([14], [14]), ([14], [14]), ([14], [14]), ([14], [14]), ([17, 18, 14], [14, 17, 18]), ([19, 14], [14, 19]), ([14], [14]), ([15, 16, 20, 21, 14, 14], [14, 15, 16, 20, 21]), ([22, 14], [14, 22]), ([14], [14]), ([24, 14], [14, 24]), ([14], [14]), ([25, 26, 14], [14, 25, 26]), ([23, 27, 14], [14, 23, 27]), ([14, 28], [14, 28])])
def lambrequinlaw10_GraphThrough.B20 : List Nat := [0, 0, 0, 0, 0, 24, 56, 127, 0, 0, 512, 1792, 4095, 8191, 16383, 32767, 32767, 32767, 32767, 425983, 950271, 32767, 4194303, 8388607, 32767, 16809983, 32767, 117473279, 268435455, 536870911]
theorem lambrequinlaw10_GraphThrough.tab20 : rtab .any (opsOf Try.f8 20) = lambrequinlaw10_GraphThrough.T20 := by kernel_rfl
theorem lambrequinlaw10_GraphThrough.bits20 : waitsOk lambrequinlaw10_GraphThrough.T20.2 lambrequinlaw10_GraphThrough.B20 = true := by kernel_rfl
set_option maxHeartbeats 8000000 in
set_option maxRecDepth 100000 in
theorem lambrequinlaw10_GraphThrough.calls (k : Nat) (a0 : Int) (A1 : Option Addr) (c1 : Nat) (l1 : List (S45)) (a2 : Int) (a3 : Int) (r : Bool) (w : World) (hr1 : Kd.C k45 w A1 l1.length l1) (hc1 : l1.length ≤ c1) (h : lambrequinlaw10_GraphThrough.f k a0 l1 a2 a3 = some r) :
    Calls Try.prog 8 #[.int .u8 a0, .slice A1 l1.length c1, .int .u8 a2, .int .u8 a3] w fun e w' => e = .returned (.bool r) ∧ Below w.heap.size w w' := by
  have HR1 := Aside0.mk hr1
  have HC1 := Aside0.mk hc1
  clear hr1 hc1
  have HB := Aside0.mk (Below.refl w.heap.size w)
  have H : ((lambrequinlaw10_shown.f k).bind fun t515 => ((lambrequinlaw10_ends.f k a0 l1).bind fun bt516 => (if bt516.1 = 0 then (none) else ((graph_Reach.f k bt516.1 bt516.2 (Int.tmod (wrap64 (a2)) bt516.1)).bind fun t520 => ((graph_Reach.f k bt516.1 bt516.2 (Int.tmod (wrap64 (a3)) bt516.1)).bind fun t523 => (if (t520.length : Int) = bt516.1 then (lambrequinlaw10_GraphThrough.j0 k t515 bt516.1 bt516.2 (Int.tmod (wrap64 (a2)) bt516.1) (Int.tmod (wrap64 (a3)) bt516.1) t520 t523 ((t523.length : Int) != bt516.1)) else (lambrequinlaw10_GraphThrough.j0 k t515 bt516.1 bt516.2 (Int.tmod (wrap64 (a2)) bt516.1) (Int.tmod (wrap64 (a3)) bt516.1) t520 t523 true))))))) = some r := h
  clear h
  replace H := Option.bind_eq_some_iff.mp H
  obtain ⟨t515, A50, H⟩ := H
  replace H : ((lambrequinlaw10_ends.f k a0 l1).bind fun bt516 => (if bt516.1 = 0 then (none) else ((graph_Reach.f k bt516.1 bt516.2 (Int.tmod (wrap64 (a2)) bt516.1)).bind fun t520 => ((graph_Reach.f k bt516.1 bt516.2 (Int.tmod (wrap64 (a3)) bt516.1)).bind fun t523 => (if (t520.length : Int) = bt516.1 then (lambrequinlaw10_GraphThrough.j0 k t515 bt516.1 bt516.2 (Int.tmod (wrap64 (a2)) bt516.1) (Int.tmod (wrap64 (a3)) bt516.1) t520 t523 ((t523.length : Int) != bt516.1)) else (lambrequinlaw10_GraphThrough.j0 k t515 bt516.1 bt516.2 (Int.tmod (wrap64 (a2)) bt516.1) (Int.tmod (wrap64 (a3)) bt516.1) t520 t523 true)))))) = some r := H
  have A5 := Aside0.mk A50
  clear A50
  replace H := Option.bind_eq_some_iff.mp H
  obtain ⟨⟨t516, t517⟩, A60, H⟩ := H
  replace H : (if t516 = 0 then (none) else ((graph_Reach.f k t516 t517 (Int.tmod (wrap64 (a2)) t516)).bind fun t520 => ((graph_Reach.f k t516 t517 (Int.tmod (wrap64 (a3)) t516)).bind fun t523 => (if (t520.length : Int) = t516 then (lambrequinlaw10_GraphThrough.j0 k t515 t516 t517 (Int.tmod (wrap64 (a2)) t516) (Int.tmod (wrap64 (a3)) t516) t520 t523 ((t523.length : Int) != t516)) else (lambrequinlaw10_GraphThrough.j0 k t515 t516 t517 (Int.tmod (wrap64 (a2)) t516) (Int.tmod (wrap64 (a3)) t516) t520 t523 true))))) = some r := H
  have A6 := Aside0.mk A60
  clear A60
  by_cases c7 : t516 = 0
  · rw [if_pos c7] at H
    exact absurd H (by simp)
  · rw [if_neg c7] at H
    have c7b0 : (t516 == 0) = false := beq_eq_false_iff_ne.mpr c7
    have c7b1 : (t516 != 0) = true := bne_iff_ne.mpr c7
    replace H := Option.bind_eq_some_iff.mp H
    obtain ⟨t520, A80, H⟩ := H
    replace H : ((graph_Reach.f k t516 t517 (Int.tmod (wrap64 (a3)) t516)).bind fun t523 => (if (t520.length : Int) = t516 then (lambrequinlaw10_GraphThrough.j0 k t515 t516 t517 (Int.tmod (wrap64 (a2)) t516) (Int.tmod (wrap64 (a3)) t516) t520 t523 ((t523.length : Int) != t516)) else (lambrequinlaw10_GraphThrough.j0 k t515 t516 t517 (Int.tmod (wrap64 (a2)) t516) (Int.tmod (wrap64 (a3)) t516) t520 t523 true))) = some r := H
    have A8 := Aside0.mk A80
    clear A80
    replace H := Option.bind_eq_some_iff.mp H
    obtain ⟨t523, A90, H⟩ := H
    replace H : (if (t520.length : Int) = t516 then (lambrequinlaw10_GraphThrough.j0 k t515 t516 t517 (Int.tmod (wrap64 (a2)) t516) (Int.tmod (wrap64 (a3)) t516) t520 t523 ((t523.length : Int) != t516)) else (lambrequinlaw10_GraphThrough.j0 k t515 t516 t517 (Int.tmod (wrap64 (a2)) t516) (Int.tmod (wrap64 (a3)) t516) t520 t523 true)) = some r := H
    have A9 := Aside0.mk A90
    clear A90
    have HC10 := Aside0.mk H
    clear H
    go_enter Try.func8, Try.ntmps8
    go_upto_region 7 with (first | ((with_reducible refine gate_callee (f := 14) rfl ?_); refine goesL_ (some 19) rfl rfl Try.func14 (by kernel_rfl) rfl #[] rfl (by (try simp only [List.map_toArray, List.map_cons, List.map_nil]); first | done | rfl | (simp only [List.length_drop, List.length_take]; rfl)) ?_; (with_reducible refine (lambrequinlaw10_shown.calls k  t515 _ A5.out).mono ?_); rintro e w11 ⟨rfl, hb⟩; refine ⟨_, rfl, ?_⟩; have n0_ := Aside0.mk (below_step (by repeat (first | (with_reducible first | exact HB.out | apply below_alloc | apply pw_below_drewN | apply below_drew1) | exact HB.out)) hb); clear HB; have HB := n0_; clear n0_; (try clear hb); (try clear hb2); (try clear hk); (try clear hi)) | ((with_reducible refine gate_callee (f := 15) rfl ?_); refine goesL_ (some 23) rfl rfl Try.func15 (by kernel_rfl) rfl #[.int .u8 a0, .slice A1 l1.length c1] rfl (by (try simp only [List.map_toArray, List.map_cons, List.map_nil]); first | done | rfl | (simp only [List.length_drop, List.length_take]; rfl)) ?_; (with_reducible refine (lambrequinlaw10_ends.calls k a0 _ _ l1 t516 t517 _ ?side1 ?side2 A6.out).mono ?_); (case side1 => repeat (first | exact (Kd.C_below HR1.out HB.out) | (with_reducible refine Kd.C_alloc ?_ _) | (with_reducible refine Kd.C_drewN ?_ _) | (with_reducible refine Kd.C_drew ?_))); (case side2 => exact HC1.out); rintro e w12 ⟨v518, rfl, ho0, hb⟩; refine ⟨_, rfl, ?_⟩; have n0_ := Aside0.mk (Kd.R_lower ho0 (below_size (by repeat (first | (with_reducible first | exact HB.out | apply below_alloc | apply pw_below_drewN | apply below_drew1) | exact HB.out)))); have n1_ := Aside0.mk (below_step (by repeat (first | (with_reducible first | exact HB.out | apply below_alloc | apply pw_below_drewN | apply below_drew1) | exact HB.out)) hb); clear HB; have HO519 := n0_; have HB := n1_; clear n0_ n1_; (try clear hb); (try clear hb2); (try clear hk); (try clear hi); (try clear ho0); obtain ⟨Ao13, co13, eo13⟩ := Kd.R_slice HO519.out; subst eo13) | ((with_reducible refine gate_callee (f := 22) rfl ?_); refine goesL_ (some 37) rfl rfl Try.func22 (by kernel_rfl) rfl #[.int .i64 t516, .slice Ao13 t517.length co13, .int .i64 (Int.tmod (wrap64 (a2)) t516)] rfl (by (try simp only [List.map_toArray, List.map_cons, List.map_nil]); first | done | rfl | (simp only [List.length_drop, List.length_take]; rfl)) ?_; (with_reducible refine (graph_Reach.calls k t516 _ _ t517 (Int.tmod (wrap64 (a2)) t516) t520 _ ?side1 ?side2 A8.out).mono ?_); (case side1 => repeat (first | exact (Kd.R_reads' HO519.out).2.2 | (with_reducible refine Kd.C_alloc ?_ _) | (with_reducible refine Kd.C_drewN ?_ _) | (with_reducible refine Kd.C_drew ?_))); (case side2 => exact (Kd.R_reads' HO519.out).2.1); rintro e w14 ⟨v521, rfl, ho0, hb⟩; refine ⟨_, rfl, ?_⟩; have n0_ := Aside0.mk (Kd.R_below (by (with_reducible repeat (first | apply Kd.R_alloc | apply Kd.R_drewN | apply Kd.R_drew)); exact HO519.out) hb); have n1_ := Aside0.mk (Kd.R_lower ho0 (below_size (by repeat (first | (with_reducible first | exact HB.out | apply below_alloc | apply pw_below_drewN | apply below_drew1) | exact HB.out)))); have n2_ := Aside0.mk (below_step (by repeat (first | (with_reducible first | exact HB.out | apply below_alloc | apply pw_below_drewN | apply below_drew1) | exact HB.out)) hb); clear HO519; clear HB; have HO519 := n0_; have HO522 := n1_; have HB := n2_; clear n0_ n1_ n2_; (try clear hb); (try clear hb2); (try clear hk); (try clear hi); (try clear ho0)) | ((with_reducible refine gate_callee (f := 22) rfl ?_); refine goesL_ (some 41) rfl rfl Try.func22 (by kernel_rfl) rfl #[.int .i64 t516, .slice Ao13 t517.length co13, .int .i64 (Int.tmod (wrap64 (a3)) t516)] rfl (by (try simp only [List.map_toArray, List.map_cons, List.map_nil]); first | done | rfl | (simp only [List.length_drop, List.length_take]; rfl)) ?_; (with_reducible refine (graph_Reach.calls k t516 _ _ t517 (Int.tmod (wrap64 (a3)) t516) t523 _ ?side1 ?side2 A9.out).mono ?_); (case side1 => repeat (first | exact (Kd.R_reads' HO519.out).2.2 | (with_reducible refine Kd.C_alloc ?_ _) | (with_reducible refine Kd.C_drewN ?_ _) | (with_reducible refine Kd.C_drew ?_))); (case side2 => exact (Kd.R_reads' HO519.out).2.1); rintro e w15 ⟨v524, rfl, ho0, hb⟩; refine ⟨_, rfl, ?_⟩; have n0_ := Aside0.mk (Kd.R_below (by (with_reducible repeat (first | apply Kd.R_alloc | apply Kd.R_drewN | apply Kd.R_drew)); exact HO519.out) hb); have n1_ := Aside0.mk (Kd.R_elder' (by (with_reducible repeat (first | apply Kd.R_alloc | apply Kd.R_drewN | apply Kd.R_drew)); exact HO522.out) (Kd.R_base ho0) hb); have n2_ := Aside0.mk (Kd.R_lower (Kd.R_new' ho0 (Kd.R_lt (by (with_reducible repeat (first | apply Kd.R_alloc | apply Kd.R_drewN | apply Kd.R_drew)); exact HO522.out))) (below_size (by repeat (first | (with_reducible first | exact HB.out | apply below_alloc | apply pw_below_drewN | apply below_drew1) | exact HB.out)))); have n3_ := Aside0.mk (below_step (by repeat (first | (with_reducible first | exact HB.out | apply below_alloc | apply pw_below_drewN | apply below_drew1) | exact HB.out)) hb); clear HO519; clear HO522; clear HB; have HO519 := n0_; have HO522 := n1_; have HO525 := n2_; have HB := n3_; clear n0_ n1_ n2_ n3_; (try clear hb); (try clear hb2); (try clear hk); (try clear hi); (try clear ho0)))
    (try simp only [Act.put, List.setIfInBounds_toArray, List.set_cons_zero, List.set_cons_succ])
    go_cut [51] (fun v51 wc => ∃ (kq : Nat) (x51_9 : Bool), v51 = .bool x51_9 ∧ Aside0 (lambrequinlaw10_GraphThrough.j0 kq t515 t516 t517 (Int.tmod (wrap64 (a2)) t516) (Int.tmod (wrap64 (a3)) t516) t520 t523 x51_9 = some r) ∧ Aside0 (kq ≤ k) ∧ Aside0 (Kd.R k27 27 wc w.heap.size (fun _ => True) (.slice Ao13 t517.length co13) t517) ∧ Aside0 (Kd.R Kd.bool 4 wc w.heap.size (fun k_ => some k_ ≠ (v524 : Value).ownBlock) v521 t520) ∧ Aside0 (Kd.R Kd.bool 4 wc w.heap.size (fun k_ => some k_ ≠ (v521 : Value).ownBlock) v524 t523) ∧ Aside0 (Below w.heap.size w wc))
    case first =>
      have H := HC10.out
      clear HC10
      by_cases c16 : (t520.length : Int) = t516
      · rw [if_pos c16] at H
        have c16b0 : ((t520.length : Int) == t516) = true := beq_iff_eq.mpr c16
        have c16b1 : ((t520.length : Int) != t516) = false := bne_eq_false_iff_eq.mpr c16
        clear c16
        (first | rw [c16b0] | (simp only [i64_w, i32_w]; rw [c16b0]) | skip)
        have H' := Aside0.mk H
        clear H
        obtain ⟨Ao17, co17, eo17⟩ := Kd.R_slice HO522.out
        subst eo17
        obtain ⟨Ao18, co18, eo18⟩ := Kd.R_slice HO525.out
        subst eo18
        go_wp2
        go_meet
        case rel => exact ⟨_, (((t523.length : Int) != t516)), (by first | rfl | (simp; done) | (simp [*]; done)), H', ⟨by first | omega | exact Nat.le_refl _⟩, ⟨by (with_reducible repeat (first | apply Kd.R_alloc | apply Kd.R_drewN | apply Kd.R_drew)); exact HO519.out⟩, ⟨by (with_reducible repeat (first | apply Kd.R_alloc | apply Kd.R_drewN | apply Kd.R_drew)); exact Kd.R_mono HO522.out (fun _ hk => hk.2)⟩, ⟨by (with_reducible repeat (first | apply Kd.R_alloc | apply Kd.R_drewN | apply Kd.R_drew)); exact Kd.R_mono HO525.out (fun _ hk => hk.2)⟩, ⟨by repeat (first | (with_reducible first | exact HB.out | apply below_alloc | apply pw_below_drewN | apply below_drew1) | exact HB.out)⟩⟩
      · rw [if_neg c16] at H
        have c16b0 : ((t520.length : Int) == t516) = false := beq_eq_false_iff_ne.mpr c16
        have c16b1 : ((t520.length : Int) != t516) = true := bne_iff_ne.mpr c16
        (first | rw [c16b0] | (simp only [i64_w, i32_w]; rw [c16b0]) | skip)
        have H' := Aside0.mk H
        clear H
        obtain ⟨Ao19, co19, eo19⟩ := Kd.R_slice HO522.out
        subst eo19
        go_wp2
        go_meet
        case rel => exact ⟨_, (true), (by first | rfl | (simp; done) | (simp [*]; done)), H', ⟨by first | omega | exact Nat.le_refl _⟩, ⟨by (with_reducible repeat (first | apply Kd.R_alloc | apply Kd.R_drewN | apply Kd.R_drew)); exact HO519.out⟩, ⟨by (with_reducible repeat (first | apply Kd.R_alloc | apply Kd.R_drewN | apply Kd.R_drew)); exact Kd.R_mono HO522.out (fun _ hk => hk.2)⟩, ⟨by (with_reducible repeat (first | apply Kd.R_alloc | apply Kd.R_drewN | apply Kd.R_drew)); exact Kd.R_mono HO525.out (fun _ hk => hk.2)⟩, ⟨by repeat (first | (with_reducible first | exact HB.out | apply below_alloc | apply pw_below_drewN | apply below_drew1) | exact HB.out)⟩⟩
    case rest =>
      clear HC10
      try clear c1
      try clear c2
      try clear p2
      try clear p6
      try clear c7
      try clear c7b0
      try clear c7b1
      try clear c8
      try clear c14
      try clear c15
      try clear c16
      try clear c16b0
      try clear c16b1
      obtain ⟨kq, x51_9, rfl, HA, HJ9, HO_11, HO_14, HO_15, HB⟩ := hcut
      cases kq with
      | zero => exact absurd HA.out (by simp [lambrequinlaw10_GraphThrough.j0])
      | succ kj9 =>
        have H := HA.out
        clear HA
        simp only [lambrequinlaw10_GraphThrough.j0] at H
        by_cases c20 : x51_9 = true
        · subst c20
          have H1 : (some false) = some r := by rw [if_pos rfl] at H; exact H
          clear H
          have H := H1
          clear H1
          obtain rfl := Option.some.inj H
          go_wp2
          go_ret
          exact ⟨by first | rfl | (simp [errW_none, errW_some] <;> rfl) | (simp [*, errW_none, errW_some] <;> rfl), by repeat (first | (with_reducible first | exact HB.out | apply below_alloc | apply pw_below_drewN | apply below_drew1) | exact HB.out)⟩
        · replace c20 := Bool.eq_false_iff.mpr c20
          subst c20
          have H1 : (lambrequinlaw10_GraphThrough.l0 kj9 t515 t516 t517 (Int.tmod (wrap64 (a2)) t516) (Int.tmod (wrap64 (a3)) t516) t520 t523 0) = some r := by rw [if_neg (show ¬ (false = true) by decide)] at H; exact H
          clear H
          have H := H1
          clear H1
          have H' := Aside0.mk H
          clear H
          go_wp2
          go_loopg [16] kj9 (fun kq v16 w' => ∃ (x16_2 : Int), v16 = .int .i64 x16_2 ∧ Aside0 (lambrequinlaw10_GraphThrough.l0 kq t515 t516 t517 (Int.tmod (wrap64 (a2)) t516) (Int.tmod (wrap64 (a3)) t516) t520 t523 x16_2 = some r) ∧ Aside0 (kq ≤ kj9) ∧ Aside0 (Kd.R k27 27 w' w.heap.size (fun _ => True) (.slice Ao13 t517.length co13) t517) ∧ Aside0 (Kd.R Kd.bool 4 w' w.heap.size (fun k_ => some k_ ≠ (v524 : Value).ownBlock) v521 t520) ∧ Aside0 (Kd.R Kd.bool 4 w' w.heap.size (fun k_ => some k_ ≠ (v521 : Value).ownBlock) v524 t523) ∧ Aside0 (Below w.heap.size w w'))
          case atStart => exact ⟨(0), (by first | rfl | (simp; done) | (simp [*]; done)), H', ⟨Nat.le_refl _⟩, ⟨by (with_reducible repeat (first | apply Kd.R_alloc | apply Kd.R_drewN | apply Kd.R_drew)); exact HO_11.out⟩, ⟨by (with_reducible repeat (first | apply Kd.R_alloc | apply Kd.R_drewN | apply Kd.R_drew)); exact HO_14.out⟩, ⟨by (with_reducible repeat (first | apply Kd.R_alloc | apply Kd.R_drewN | apply Kd.R_drew)); exact HO_15.out⟩, ⟨by repeat (first | (with_reducible first | exact HB.out | apply below_alloc | apply pw_below_drewN | apply below_drew1) | exact HB.out)⟩⟩
          case round =>
            clear H'
            try clear c1
            try clear c2
            try clear p2
            try clear p6
            try clear c7
            try clear c7b0
            try clear c7b1
            try clear c8
            try clear c14
            try clear c15
            try clear c16
            try clear c16b0
            try clear c16b1
            try clear c20
            try clear p2
            try clear p6
            obtain ⟨x16_2, rfl, HA, HK2, HO_11, HO_14, HO_15, HB⟩ := hrel
            cases gk with
            | zero => exact absurd HA.out (by simp [lambrequinlaw10_GraphThrough.l0])
            | succ k2 =>
              have H := HA.out
              clear HA
              simp only [lambrequinlaw10_GraphThrough.l0] at H
              by_cases c21 : x16_2 < t516
              · rw [if_pos c21] at H
                have c21b0 : decide (x16_2 < t516) = true := decide_eq_true c21
                clear c21
                obtain ⟨ji22, hji22⟩ : ∃ j_ : Int, (Int.tmod (wrap64 (a3)) t516) = j_ := ⟨_, rfl⟩
                replace H : (if 0 ≤ (ji22) then (if (ji22) < (t520.length : Int) then (if rdOf false t520 (ji22) = true then (if 0 ≤ x16_2 then (if x16_2 < (t523.length : Int) then (if rdOf false t523 x16_2 = true then (if x16_2 < (t520.length : Int) then (if rdOf false t520 x16_2 = true then (lambrequinlaw10_GraphThrough.l0 k2 t515 t516 t517 (Int.tmod (wrap64 (a2)) t516) (ji22) t520 t523 (wrap64 (x16_2 + 1))) else (some false)) else (none)) else (lambrequinlaw10_GraphThrough.l0 k2 t515 t516 t517 (Int.tmod (wrap64 (a2)) t516) (ji22) t520 t523 (wrap64 (x16_2 + 1)))) else (none)) else (none)) else (lambrequinlaw10_GraphThrough.l0 k2 t515 t516 t517 (Int.tmod (wrap64 (a2)) t516) (ji22) t520 t523 (wrap64 (x16_2 + 1)))) else (none)) else (none)) = some r := by first | (rw [hji22] at H; exact H) | (simp only [hji22] at H ⊢; exact H)
                by_cases c23 : 0 ≤ (ji22)
                · rw [if_pos c23] at H
                  have c23b0 : decide (0 ≤ (ji22)) = true := decide_eq_true c23
                  clear c23
                  by_cases c24 : (ji22) < (t520.length : Int)
                  · rw [if_pos c24] at H
                    have c24b0 : decide ((ji22) < (t520.length : Int)) = true := decide_eq_true c24
                    clear c24
                    obtain ⟨bq25, hbq25⟩ : ∃ b_ : Bool, b_ = (rdOf false t520 (ji22)) := ⟨_, rfl⟩
                    replace H : (if bq25 = true then (if 0 ≤ x16_2 then (if x16_2 < (t523.length : Int) then (if rdOf false t523 x16_2 = true then (if x16_2 < (t520.length : Int) then (if rdOf false t520 x16_2 = true then (lambrequinlaw10_GraphThrough.l0 k2 t515 t516 t517 (Int.tmod (wrap64 (a2)) t516) (ji22) t520 t523 (wrap64 (x16_2 + 1))) else (some false)) else (none)) else (lambrequinlaw10_GraphThrough.l0 k2 t515 t516 t517 (Int.tmod (wrap64 (a2)) t516) (ji22) t520 t523 (wrap64 (x16_2 + 1)))) else (none)) else (none)) else (lambrequinlaw10_GraphThrough.l0 k2 t515 t516 t517 (Int.tmod (wrap64 (a2)) t516) (ji22) t520 t523 (wrap64 (x16_2 + 1)))) = some r := by rw [← hbq25] at H; exact H
                    have Nbq25 := Aside0.mk hbq25
                    clear hbq25
                    by_cases c26 : bq25 = true
                    · subst c26
                      have H1 : (if 0 ≤ x16_2 then (if x16_2 < (t523.length : Int) then (if rdOf false t523 x16_2 = true then (if x16_2 < (t520.length : Int) then (if rdOf false t520 x16_2 = true then (lambrequinlaw10_GraphThrough.l0 k2 t515 t516 t517 (Int.tmod (wrap64 (a2)) t516) (ji22) t520 t523 (wrap64 (x16_2 + 1))) else (some false)) else (none)) else (lambrequinlaw10_GraphThrough.l0 k2 t515 t516 t517 (Int.tmod (wrap64 (a2)) t516) (ji22) t520 t523 (wrap64 (x16_2 + 1)))) else (none)) else (none)) = some r := by rw [if_pos rfl] at H; exact H
                      clear H
                      have H := H1
                      clear H1
                      by_cases c27 : 0 ≤ x16_2
                      · rw [if_pos c27] at H
                        have c27b0 : decide (0 ≤ x16_2) = true := decide_eq_true c27
                        clear c27
                        by_cases c28 : x16_2 < (t523.length : Int)
                        · rw [if_pos c28] at H
                          have c28b0 : decide (x16_2 < (t523.length : Int)) = true := decide_eq_true c28
                          clear c28
                          obtain ⟨bq29, hbq29⟩ : ∃ b_ : Bool, b_ = (rdOf false t523 x16_2) := ⟨_, rfl⟩
                          replace H : (if bq29 = true then (if x16_2 < (t520.length : Int) then (if rdOf false t520 x16_2 = true then (lambrequinlaw10_GraphThrough.l0 k2 t515 t516 t517 (Int.tmod (wrap64 (a2)) t516) (ji22) t520 t523 (wrap64 (x16_2 + 1))) else (some false)) else (none)) else (lambrequinlaw10_GraphThrough.l0 k2 t515 t516 t517 (Int.tmod (wrap64 (a2)) t516) (ji22) t520 t523 (wrap64 (x16_2 + 1)))) = some r := by rw [← hbq29] at H; exact H
                          have Nbq29 := Aside0.mk hbq29
                          clear hbq29
                          by_cases c30 : bq29 = true
                          · subst c30
                            have H1 : (if x16_2 < (t520.length : Int) then (if rdOf false t520 x16_2 = true then (lambrequinlaw10_GraphThrough.l0 k2 t515 t516 t517 (Int.tmod (wrap64 (a2)) t516) (ji22) t520 t523 (wrap64 (x16_2 + 1))) else (some false)) else (none)) = some r := by rw [if_pos rfl] at H; exact H
                            clear H
                            have H := H1
                            clear H1
                            by_cases c31 : x16_2 < (t520.length : Int)
                            · rw [if_pos c31] at H
                              have c31b0 : decide (x16_2 < (t520.length : Int)) = true := decide_eq_true c31
                              clear c31
                              obtain ⟨bq32, hbq32⟩ : ∃ b_ : Bool, b_ = (rdOf false t520 x16_2) := ⟨_, rfl⟩
                              replace H : (if bq32 = true then (lambrequinlaw10_GraphThrough.l0 k2 t515 t516 t517 (Int.tmod (wrap64 (a2)) t516) (ji22) t520 t523 (wrap64 (x16_2 + 1))) else (some false)) = some r := by rw [← hbq32] at H; exact H
                              have Nbq32 := Aside0.mk hbq32
                              clear hbq32
                              by_cases c33 : bq32 = true
                              · subst c33
                                have H1 : (lambrequinlaw10_GraphThrough.l0 k2 t515 t516 t517 (Int.tmod (wrap64 (a2)) t516) (ji22) t520 t523 (wrap64 (x16_2 + 1))) = some r := by rw [if_pos rfl] at H; exact H
                                clear H
                                have H := H1
                                clear H1
                                have H' := Aside0.mk H
                                clear H
                                obtain ⟨Ao34, co34, eo34⟩ := Kd.R_slice HO_14.out
                                subst eo34
                                have p526 : 0 ≤ ((ji22) : Int) := of_decide_eq_true (by first | (with_reducible assumption) | assumption)
                                have q526 : (ji22) < (t520.length : Int) := of_decide_eq_true (by first | (with_reducible assumption) | assumption)
                                obtain ⟨ad526, e526, hx526_0⟩ := Kd.at_bool (Kd.R_reads' HO_14.out).2.2 (ji22) p526 q526
                                (try rw [← Nbq25.out] at hx526_0)
                                (try rw [← Nbq29.out] at hx526_0)
                                (try rw [← Nbq32.out] at hx526_0)
                                cases e526
                                replace p526 := eq_true p526
                                replace q526 := eq_true q526
                                obtain ⟨Ao35, co35, eo35⟩ := Kd.R_slice HO_15.out
                                subst eo35
                                have p527 : 0 ≤ (x16_2 : Int) := of_decide_eq_true (by first | (with_reducible assumption) | assumption)
                                have q527 : x16_2 < (t523.length : Int) := of_decide_eq_true (by first | (with_reducible assumption) | assumption)
                                obtain ⟨ad527, e527, hx527_0⟩ := Kd.at_bool (Kd.R_reads' HO_15.out).2.2 x16_2 p527 q527
                                (try rw [← Nbq25.out] at hx527_0)
                                (try rw [← Nbq29.out] at hx527_0)
                                (try rw [← Nbq32.out] at hx527_0)
                                cases e527
                                replace p527 := eq_true p527
                                replace q527 := eq_true q527
                                have p528 : 0 ≤ (x16_2 : Int) := of_decide_eq_true (by first | (with_reducible assumption) | assumption)
                                have q528 : x16_2 < (t520.length : Int) := of_decide_eq_true (by first | (with_reducible assumption) | assumption)
                                obtain ⟨ad528, e528, hx528_0⟩ := Kd.at_bool (Kd.R_reads' HO_14.out).2.2 x16_2 p528 q528
                                (try rw [← Nbq25.out] at hx528_0)
                                (try rw [← Nbq29.out] at hx528_0)
                                (try rw [← Nbq32.out] at hx528_0)
                                obtain rfl : ad526 = ad528 := (by injection e528)
                                replace p528 := eq_true p528
                                replace q528 := eq_true q528
                                go_wp2
                                (try simp only [← hji22] at H' ⊢)
                                go_roundg k2
                                case measure => have := HJ9.out; have := HK2.out; omega
                                case rel => exact ⟨(wrap64 (x16_2 + 1)), (by first | rfl | (simp; done) | (simp [*]; done)), H', ⟨by have := HJ9.out; have := HK2.out; omega⟩, ⟨by (with_reducible repeat (first | apply Kd.R_alloc | apply Kd.R_drewN | apply Kd.R_drew)); exact HO_11.out⟩, ⟨by (with_reducible repeat (first | apply Kd.R_alloc | apply Kd.R_drewN | apply Kd.R_drew)); exact HO_14.out⟩, ⟨by (with_reducible repeat (first | apply Kd.R_alloc | apply Kd.R_drewN | apply Kd.R_drew)); exact HO_15.out⟩, ⟨by repeat (first | (with_reducible first | exact HB.out | apply below_alloc | apply pw_below_drewN | apply below_drew1) | exact HB.out)⟩⟩
                              · replace c33 := Bool.eq_false_iff.mpr c33
                                subst c33
                                have H1 : (some false) = some r := by rw [if_neg (show ¬ (false = true) by decide)] at H; exact H
                                clear H
                                have H := H1
                                clear H1
                                obtain rfl := Option.some.inj H
                                obtain ⟨Ao36, co36, eo36⟩ := Kd.R_slice HO_14.out
                                subst eo36
                                have p526 : 0 ≤ ((ji22) : Int) := of_decide_eq_true (by first | (with_reducible assumption) | assumption)
                                have q526 : (ji22) < (t520.length : Int) := of_decide_eq_true (by first | (with_reducible assumption) | assumption)
                                obtain ⟨ad526, e526, hx526_0⟩ := Kd.at_bool (Kd.R_reads' HO_14.out).2.2 (ji22) p526 q526
                                (try rw [← Nbq25.out] at hx526_0)
                                (try rw [← Nbq29.out] at hx526_0)
                                (try rw [← Nbq32.out] at hx526_0)
                                cases e526
                                replace p526 := eq_true p526
                                replace q526 := eq_true q526
                                obtain ⟨Ao37, co37, eo37⟩ := Kd.R_slice HO_15.out
                                subst eo37
                                have p527 : 0 ≤ (x16_2 : Int) := of_decide_eq_true (by first | (with_reducible assumption) | assumption)
                                have q527 : x16_2 < (t523.length : Int) := of_decide_eq_true (by first | (with_reducible assumption) | assumption)
                                obtain ⟨ad527, e527, hx527_0⟩ := Kd.at_bool (Kd.R_reads' HO_15.out).2.2 x16_2 p527 q527
                                (try rw [← Nbq25.out] at hx527_0)
                                (try rw [← Nbq29.out] at hx527_0)
                                (try rw [← Nbq32.out] at hx527_0)
                                cases e527
                                replace p527 := eq_true p527
                                replace q527 := eq_true q527
                                have p528 : 0 ≤ (x16_2 : Int) := of_decide_eq_true (by first | (with_reducible assumption) | assumption)
                                have q528 : x16_2 < (t520.length : Int) := of_decide_eq_true (by first | (with_reducible assumption) | assumption)
                                obtain ⟨ad528, e528, hx528_0⟩ := Kd.at_bool (Kd.R_reads' HO_14.out).2.2 x16_2 p528 q528
                                (try rw [← Nbq25.out] at hx528_0)
                                (try rw [← Nbq29.out] at hx528_0)
                                (try rw [← Nbq32.out] at hx528_0)
                                obtain rfl : ad526 = ad528 := (by injection e528)
                                replace p528 := eq_true p528
                                replace q528 := eq_true q528
                                go_wp2
                                go_ret
                                exact ⟨by first | rfl | (simp [errW_none, errW_some] <;> rfl) | (simp only [← hji22]; first | rfl | (simp [errW_none, errW_some] <;> rfl)) | (simp [*, errW_none, errW_some] <;> rfl), by repeat (first | (with_reducible first | exact HB.out | apply below_alloc | apply pw_below_drewN | apply below_drew1) | exact HB.out)⟩
                            · rw [if_neg c31] at H
                              exact absurd H (by simp)
                          · replace c30 := Bool.eq_false_iff.mpr c30
                            subst c30
                            have H1 : (lambrequinlaw10_GraphThrough.l0 k2 t515 t516 t517 (Int.tmod (wrap64 (a2)) t516) (ji22) t520 t523 (wrap64 (x16_2 + 1))) = some r := by rw [if_neg (show ¬ (false = true) by decide)] at H; exact H
                            clear H
                            have H := H1
                            clear H1
                            have H' := Aside0.mk H
                            clear H
                            obtain ⟨Ao38, co38, eo38⟩ := Kd.R_slice HO_14.out
                            subst eo38
                            have p526 : 0 ≤ ((ji22) : Int) := of_decide_eq_true (by first | (with_reducible assumption) | assumption)
                            have q526 : (ji22) < (t520.length : Int) := of_decide_eq_true (by first | (with_reducible assumption) | assumption)
                            obtain ⟨ad526, e526, hx526_0⟩ := Kd.at_bool (Kd.R_reads' HO_14.out).2.2 (ji22) p526 q526
                            (try rw [← Nbq25.out] at hx526_0)
                            (try rw [← Nbq29.out] at hx526_0)
                            cases e526
                            replace p526 := eq_true p526
                            replace q526 := eq_true q526
                            obtain ⟨Ao39, co39, eo39⟩ := Kd.R_slice HO_15.out
                            subst eo39
                            have p527 : 0 ≤ (x16_2 : Int) := of_decide_eq_true (by first | (with_reducible assumption) | assumption)
                            have q527 : x16_2 < (t523.length : Int) := of_decide_eq_true (by first | (with_reducible assumption) | assumption)
                            obtain ⟨ad527, e527, hx527_0⟩ := Kd.at_bool (Kd.R_reads' HO_15.out).2.2 x16_2 p527 q527
                            (try rw [← Nbq25.out] at hx527_0)
                            (try rw [← Nbq29.out] at hx527_0)
                            cases e527
                            replace p527 := eq_true p527
                            replace q527 := eq_true q527
                            go_wp2
                            (try simp only [← hji22] at H' ⊢)
                            go_roundg k2
                            case measure => have := HJ9.out; have := HK2.out; omega
                            case rel => exact ⟨(wrap64 (x16_2 + 1)), (by first | rfl | (simp; done) | (simp [*]; done)), H', ⟨by have := HJ9.out; have := HK2.out; omega⟩, ⟨by (with_reducible repeat (first | apply Kd.R_alloc | apply Kd.R_drewN | apply Kd.R_drew)); exact HO_11.out⟩, ⟨by (with_reducible repeat (first | apply Kd.R_alloc | apply Kd.R_drewN | apply Kd.R_drew)); exact HO_14.out⟩, ⟨by (with_reducible repeat (first | apply Kd.R_alloc | apply Kd.R_drewN | apply Kd.R_drew)); exact HO_15.out⟩, ⟨by repeat (first | (with_reducible first | exact HB.out | apply below_alloc | apply pw_below_drewN | apply below_drew1) | exact HB.out)⟩⟩
                        · rw [if_neg c28] at H
                          exact absurd H (by simp)
                      · rw [if_neg c27] at H
                        exact absurd H (by simp)
                    · replace c26 := Bool.eq_false_iff.mpr c26
                      subst c26
                      have H1 : (lambrequinlaw10_GraphThrough.l0 k2 t515 t516 t517 (Int.tmod (wrap64 (a2)) t516) (ji22) t520 t523 (wrap64 (x16_2 + 1))) = some r := by rw [if_neg (show ¬ (false = true) by decide)] at H; exact H
                      clear H
                      have H := H1
                      clear H1
                      have H' := Aside0.mk H
                      clear H
                      obtain ⟨Ao40, co40, eo40⟩ := Kd.R_slice HO_14.out
                      subst eo40
                      have p526 : 0 ≤ ((ji22) : Int) := of_decide_eq_true (by first | (with_reducible assumption) | assumption)
                      have q526 : (ji22) < (t520.length : Int) := of_decide_eq_true (by first | (with_reducible assumption) | assumption)
                      obtain ⟨ad526, e526, hx526_0⟩ := Kd.at_bool (Kd.R_reads' HO_14.out).2.2 (ji22) p526 q526
                      (try rw [← Nbq25.out] at hx526_0)
                      cases e526
                      replace p526 := eq_true p526
                      replace q526 := eq_true q526
                      go_wp2
                      (try simp only [← hji22] at H' ⊢)
                      go_roundg k2
                      case measure => have := HJ9.out; have := HK2.out; omega
                      case rel => exact ⟨(wrap64 (x16_2 + 1)), (by first | rfl | (simp; done) | (simp [*]; done)), H', ⟨by have := HJ9.out; have := HK2.out; omega⟩, ⟨by (with_reducible repeat (first | apply Kd.R_alloc | apply Kd.R_drewN | apply Kd.R_drew)); exact HO_11.out⟩, ⟨by (with_reducible repeat (first | apply Kd.R_alloc | apply Kd.R_drewN | apply Kd.R_drew)); exact HO_14.out⟩, ⟨by (with_reducible repeat (first | apply Kd.R_alloc | apply Kd.R_drewN | apply Kd.R_drew)); exact HO_15.out⟩, ⟨by repeat (first | (with_reducible first | exact HB.out | apply below_alloc | apply pw_below_drewN | apply below_drew1) | exact HB.out)⟩⟩
                  · rw [if_neg c24] at H
                    exact absurd H (by simp)
                · rw [if_neg c23] at H
                  exact absurd H (by simp)
              · rw [if_neg c21] at H
                have c21b0 : decide (x16_2 < t516) = false := decide_eq_false c21
                clear c21
                replace H := Option.bind_eq_some_iff.mp H
                obtain ⟨t529, A410, H⟩ := H
                replace H : (lambrequinlaw10_GraphThrough.l1 k2 t515 t516 t517 (Int.tmod (wrap64 (a2)) t516) (Int.tmod (wrap64 (a3)) t516) t529 0) = some r := H
                have A41 := Aside0.mk A410
                clear A410
                have H' := Aside0.mk H
                clear H
                go_wp2_with (first | ((with_reducible refine gate_callee (f := 20) rfl ?_); refine goesL_ (some 78) rfl rfl Try.func20 (by kernel_rfl) rfl #[.int .i64 t516, .slice Ao13 t517.length co13, .int .i64 (Int.tmod (wrap64 (a2)) t516), .int .i64 (Int.tmod (wrap64 (a3)) t516)] rfl (by (try simp only [List.map_toArray, List.map_cons, List.map_nil]); first | done | rfl | (simp only [List.length_drop, List.length_take]; rfl)) ?_; (with_reducible refine (graph_Path.calls k2 t516 _ _ t517 (Int.tmod (wrap64 (a2)) t516) (Int.tmod (wrap64 (a3)) t516) t529 _ ?side1 ?side2 A41.out).mono ?_); (case side1 => repeat (first | exact (Kd.R_reads' HO_11.out).2.2 | (with_reducible refine Kd.C_alloc ?_ _) | (with_reducible refine Kd.C_drewN ?_ _) | (with_reducible refine Kd.C_drew ?_))); (case side2 => exact (Kd.R_reads' HO_11.out).2.1); rintro e w42 ⟨v530, rfl, ho0, hb⟩; refine ⟨_, rfl, ?_⟩; have n0_ := Aside0.mk (Kd.R_below (by (with_reducible repeat (first | apply Kd.R_alloc | apply Kd.R_drewN | apply Kd.R_drew)); exact HO_11.out) hb); have n1_ := Aside0.mk (Kd.R_below (by (with_reducible repeat (first | apply Kd.R_alloc | apply Kd.R_drewN | apply Kd.R_drew)); exact HO_14.out) hb); have n2_ := Aside0.mk (Kd.R_below (by (with_reducible repeat (first | apply Kd.R_alloc | apply Kd.R_drewN | apply Kd.R_drew)); exact HO_15.out) hb); have n3_ := Aside0.mk (Kd.R_lower ho0 (below_size (by repeat (first | (with_reducible first | exact HB.out | apply below_alloc | apply pw_below_drewN | apply below_drew1) | exact HB.out)))); have n4_ := Aside0.mk (below_step (by repeat (first | (with_reducible first | exact HB.out | apply below_alloc | apply pw_below_drewN | apply below_drew1) | exact HB.out)) hb); clear HO_11; clear HO_14; clear HO_15; clear HB; have HO_11 := n0_; have HO_14 := n1_; have HO_15 := n2_; have HO531 := n3_; have HB := n4_; clear n0_ n1_ n2_ n3_ n4_; (try clear hb); (try clear hb2); (try clear hk); (try clear hi); (try clear ho0)))
                go_loopg [18] k2 (fun kq v18 w' => ∃ (x18_3 : Int), v18 = .int .i64 x18_3 ∧ Aside0 (lambrequinlaw10_GraphThrough.l1 kq t515 t516 t517 (Int.tmod (wrap64 (a2)) t516) (Int.tmod (wrap64 (a3)) t516) t529 x18_3 = some r) ∧ Aside0 (kq ≤ k2) ∧ Aside0 (Kd.R k27 27 w' w.heap.size (fun _ => True) (.slice Ao13 t517.length co13) t517) ∧ Aside0 (Kd.R (Kd.int .i64) 3 w' w.heap.size (fun _ => True) v530 t529) ∧ Aside0 (Below w.heap.size w w'))
                case atStart => exact ⟨(0), (by first | rfl | (simp; done) | (simp [*]; done)), H', ⟨Nat.le_refl _⟩, ⟨by (with_reducible repeat (first | apply Kd.R_alloc | apply Kd.R_drewN | apply Kd.R_drew)); exact HO_11.out⟩, ⟨by (with_reducible repeat (first | apply Kd.R_alloc | apply Kd.R_drewN | apply Kd.R_drew)); exact HO531.out⟩, ⟨by repeat (first | (with_reducible first | exact HB.out | apply below_alloc | apply pw_below_drewN | apply below_drew1) | exact HB.out)⟩⟩
                case round =>
                  clear H'
                  try clear c1
                  try clear c2
                  try clear p2
                  try clear q2
                  try clear c3
                  try clear q3
                  try clear p5
                  try clear q5
                  try clear hx5
                  try clear p6
                  try clear c7
                  try clear c7b0
                  try clear c7b1
                  try clear c8
                  try clear c14
                  try clear c15
                  try clear c16
                  try clear c16b0
                  try clear c16b1
                  try clear c20
                  try clear c21
                  try clear c21b0
                  try clear c22
                  try clear c23
                  try clear c23b0
                  try clear c24
                  try clear c24b0
                  try clear q25
                  try clear c26
                  try clear c27
                  try clear c27b0
                  try clear c28
                  try clear c28b0
                  try clear q29
                  try clear c30
                  try clear c31
                  try clear c31b0
                  try clear q32
                  try clear c33
                  try clear hx526_0
                  try clear hx527_0
                  try clear hx528_0
                  try clear p2
                  try clear p526
                  try clear p527
                  try clear p528
                  try clear p6
                  try clear q526
                  try clear q527
                  try clear q528
                  obtain ⟨x18_3, rfl, HA, HK3, HO_11, HO_17, HB⟩ := hrel
                  cases gk with
                  | zero => exact absurd HA.out (by simp [lambrequinlaw10_GraphThrough.l1])
                  | succ k3 =>
                    have H := HA.out
                    clear HA
                    simp only [lambrequinlaw10_GraphThrough.l1] at H
                    by_cases c43 : x18_3 < (t529.length : Int)
                    · rw [if_pos c43] at H
                      have c43b0 : decide (x18_3 < (t529.length : Int)) = true := decide_eq_true c43
                      clear c43
                      have HC44 := Aside0.mk H
                      clear H
                      obtain ⟨Ao45, co45, eo45⟩ := Kd.R_slice HO_17.out
                      subst eo45
                      go_upto_region 18 with (fail)
                      go_cut [97] (fun v97 wc => ∃ (kq : Nat) (x97_43 : Bool), v97 = .bool x97_43 ∧ Aside0 (lambrequinlaw10_GraphThrough.j3 kq t515 t516 t517 (Int.tmod (wrap64 (a2)) t516) (Int.tmod (wrap64 (a3)) t516) t529 x18_3 x97_43 = some r) ∧ Aside0 (kq ≤ k3) ∧ Aside0 (Kd.R k27 27 wc w.heap.size (fun _ => True) (.slice Ao13 t517.length co13) t517) ∧ Aside0 (Kd.R (Kd.int .i64) 3 wc w.heap.size (fun _ => True) (.slice Ao45 t529.length co45) t529) ∧ Aside0 (Below w.heap.size w wc))
                      case first =>
                        have H := HC44.out
                        clear HC44
                        by_cases c46 : 0 ≤ x18_3
                        · rw [if_pos c46] at H
                          have c46b0 : decide (0 ≤ x18_3) = true := decide_eq_true c46
                          clear c46
                          (first | rw [c46b0] | (simp only [i64_w, i32_w]; rw [c46b0]) | skip)
                          by_cases c47 : (rd t529 x18_3) < 0
                          · rw [if_pos c47] at H
                            have c47b0 : decide ((rd t529 x18_3) < 0) = true := decide_eq_true c47
                            clear c47
                            have H' := Aside0.mk H
                            clear H
                            have p532 : 0 ≤ (x18_3 : Int) := of_decide_eq_true (by first | (with_reducible assumption) | assumption)
                            have q532 : x18_3 < (t529.length : Int) := of_decide_eq_true (by first | (with_reducible assumption) | assumption)
                            obtain ⟨ad532, e532, hx532_0⟩ := Kd.at_int (Kd.R_reads' HO_17.out).2.2 x18_3 p532 q532
                            cases e532
                            replace p532 := eq_true p532
                            replace q532 := eq_true q532
                            go_wp2
                            go_meet
                            case rel => exact ⟨_, (true), (by first | rfl | (simp; done) | (simp [*]; done)), H', ⟨by have := HJ9.out; have := HK2.out; have := HK3.out; first | omega | exact Nat.le_refl _⟩, ⟨by (with_reducible repeat (first | apply Kd.R_alloc | apply Kd.R_drewN | apply Kd.R_drew)); exact HO_11.out⟩, ⟨by (with_reducible repeat (first | apply Kd.R_alloc | apply Kd.R_drewN | apply Kd.R_drew)); exact HO_17.out⟩, ⟨by repeat (first | (with_reducible first | exact HB.out | apply below_alloc | apply pw_below_drewN | apply below_drew1) | exact HB.out)⟩⟩
                          · rw [if_neg c47] at H
                            have c47b0 : decide ((rd t529 x18_3) < 0) = false := decide_eq_false c47
                            clear c47
                            have H' := Aside0.mk H
                            clear H
                            have p532 : 0 ≤ (x18_3 : Int) := of_decide_eq_true (by first | (with_reducible assumption) | assumption)
                            have q532 : x18_3 < (t529.length : Int) := of_decide_eq_true (by first | (with_reducible assumption) | assumption)
                            obtain ⟨ad532, e532, hx532_0⟩ := Kd.at_int (Kd.R_reads' HO_17.out).2.2 x18_3 p532 q532
                            cases e532
                            replace p532 := eq_true p532
                            replace q532 := eq_true q532
                            have p533 : 0 ≤ (x18_3 : Int) := of_decide_eq_true (by first | (with_reducible assumption) | assumption)
                            have q533 : x18_3 < (t529.length : Int) := of_decide_eq_true (by first | (with_reducible assumption) | assumption)
                            obtain ⟨ad533, e533, hx533_0⟩ := Kd.at_int (Kd.R_reads' HO_17.out).2.2 x18_3 p533 q533
                            obtain rfl : ad532 = ad533 := (by injection e533)
                            replace p533 := eq_true p533
                            replace q533 := eq_true q533
                            go_wp2
                            go_meet
                            case rel => exact ⟨_, (decide ((rd t529 x18_3) ≥ t516)), (by first | rfl | (simp; done) | (simp [*]; done)), H', ⟨by have := HJ9.out; have := HK2.out; have := HK3.out; first | omega | exact Nat.le_refl _⟩, ⟨by (with_reducible repeat (first | apply Kd.R_alloc | apply Kd.R_drewN | apply Kd.R_drew)); exact HO_11.out⟩, ⟨by (with_reducible repeat (first | apply Kd.R_alloc | apply Kd.R_drewN | apply Kd.R_drew)); exact HO_17.out⟩, ⟨by repeat (first | (with_reducible first | exact HB.out | apply below_alloc | apply pw_below_drewN | apply below_drew1) | exact HB.out)⟩⟩
                        · rw [if_neg c46] at H
                          exact absurd H (by simp)
                      case rest =>
                        clear HC44
                        try clear c1
                        try clear c2
                        try clear p2
                        try clear q2
                        try clear c3
                        try clear q3
                        try clear c4
                        try clear p5
                        try clear q5
                        try clear hx5
                        try clear p6
                        try clear c7
                        try clear c7b0
                        try clear c7b1
                        try clear c8
                        try clear c14
                        try clear c15
                        try clear c16
                        try clear c16b0
                        try clear c16b1
                        try clear c20
                        try clear c21
                        try clear c21b0
                        try clear c22
                        try clear c23
                        try clear c23b0
                        try clear c24
                        try clear c24b0
                        try clear q25
                        try clear c26
                        try clear c27
                        try clear c27b0
                        try clear c28
                        try clear c28b0
                        try clear q29
                        try clear c30
                        try clear c31
                        try clear c31b0
                        try clear q32
                        try clear c33
                        try clear c43
                        try clear c43b0
                        try clear c46
                        try clear c46b0
                        try clear c47
                        try clear c47b0
                        try clear hx526_0
                        try clear hx527_0
                        try clear hx528_0
                        try clear hx532_0
                        try clear hx533_0
                        try clear p2
                        try clear p5
                        try clear p526
                        try clear p527
                        try clear p528
                        try clear p532
                        try clear p533
                        try clear p6
                        try clear q2
                        try clear q25
                        try clear q29
                        try clear q3
                        try clear q32
                        try clear q5
                        try clear q526
                        try clear q527
                        try clear q528
                        try clear q532
                        try clear q533
                        obtain ⟨kq, x97_43, rfl, HA, HJ43, HO_11, HO_17, HB⟩ := hcut
                        cases kq with
                        | zero => exact absurd HA.out (by simp [lambrequinlaw10_GraphThrough.j3])
                        | succ kj43 =>
                          have H := HA.out
                          clear HA
                          simp only [lambrequinlaw10_GraphThrough.j3] at H
                          by_cases c48 : x97_43 = true
                          · subst c48
                            have H1 : (some false) = some r := by rw [if_pos rfl] at H; exact H
                            clear H
                            have H := H1
                            clear H1
                            obtain rfl := Option.some.inj H
                            go_wp2
                            go_ret
                            exact ⟨by first | rfl | (simp [errW_none, errW_some] <;> rfl) | (simp [*, errW_none, errW_some] <;> rfl), by repeat (first | (with_reducible first | exact HB.out | apply below_alloc | apply pw_below_drewN | apply below_drew1) | exact HB.out)⟩
                          · replace c48 := Bool.eq_false_iff.mpr c48
                            subst c48
                            have H1 : (if 0 ≤ x18_3 then (if x18_3 < (t529.length : Int) then ((graph_Path.f kj43 t516 t517 (Int.tmod (wrap64 (a2)) t516) (rd t529 x18_3)).bind fun t535 => (if 0 ≤ (wrap64 (x18_3 + 1)) then (if (wrap64 (x18_3 + 1)) ≤ (t529.length : Int) then ((lambrequinref10_Ints.f kj43 t535 (t529.take ((wrap64 (x18_3 + 1)) : Int).toNat)).bind fun t542 => (if t542 = true then ((graph_Path.f kj43 t516 t517 (rd t529 x18_3) (Int.tmod (wrap64 (a3)) t516)).bind fun t544 => (if (t544.length : Int) = (wrap64 ((t529.length : Int) - x18_3)) then (lambrequinlaw10_GraphThrough.l1 kj43 t515 t516 t517 (Int.tmod (wrap64 (a2)) t516) (Int.tmod (wrap64 (a3)) t516) t529 (wrap64 (x18_3 + 1))) else (some false))) else (some false))) else (none)) else (none))) else (none)) else (none)) = some r := by rw [if_neg (show ¬ (false = true) by decide)] at H; exact H
                            clear H
                            have H := H1
                            clear H1
                            by_cases c49 : 0 ≤ x18_3
                            · rw [if_pos c49] at H
                              have c49b0 : decide (0 ≤ x18_3) = true := decide_eq_true c49
                              clear c49
                              by_cases c50 : x18_3 < (t529.length : Int)
                              · rw [if_pos c50] at H
                                have c50b0 : decide (x18_3 < (t529.length : Int)) = true := decide_eq_true c50
                                clear c50
                                replace H := Option.bind_eq_some_iff.mp H
                                obtain ⟨t535, A510, H⟩ := H
                                replace H : (if 0 ≤ (wrap64 (x18_3 + 1)) then (if (wrap64 (x18_3 + 1)) ≤ (t529.length : Int) then ((lambrequinref10_Ints.f kj43 t535 (t529.take ((wrap64 (x18_3 + 1)) : Int).toNat)).bind fun t542 => (if t542 = true then ((graph_Path.f kj43 t516 t517 (rd t529 x18_3) (Int.tmod (wrap64 (a3)) t516)).bind fun t544 => (if (t544.length : Int) = (wrap64 ((t529.length : Int) - x18_3)) then (lambrequinlaw10_GraphThrough.l1 kj43 t515 t516 t517 (Int.tmod (wrap64 (a2)) t516) (Int.tmod (wrap64 (a3)) t516) t529 (wrap64 (x18_3 + 1))) else (some false))) else (some false))) else (none)) else (none)) = some r := H
                                have A51 := Aside0.mk A510
                                clear A510
                                obtain ⟨ji52, hji52⟩ : ∃ j_ : Int, (wrap64 (x18_3 + 1)) = j_ := ⟨_, rfl⟩
                                replace H : (if 0 ≤ (ji52) then (if (ji52) ≤ (t529.length : Int) then ((lambrequinref10_Ints.f kj43 t535 (t529.take ((ji52) : Int).toNat)).bind fun t542 => (if t542 = true then ((graph_Path.f kj43 t516 t517 (rd t529 x18_3) (Int.tmod (wrap64 (a3)) t516)).bind fun t544 => (if (t544.length : Int) = (wrap64 ((t529.length : Int) - x18_3)) then (lambrequinlaw10_GraphThrough.l1 kj43 t515 t516 t517 (Int.tmod (wrap64 (a2)) t516) (Int.tmod (wrap64 (a3)) t516) t529 ji52) else (some false))) else (some false))) else (none)) else (none)) = some r := by first | (rw [hji52] at H; exact H) | (simp only [hji52] at H ⊢; exact H)
                                (try rw [hji52] at A51)
                                have hji52w : (IntKind.i64.wrap (x18_3 + 1)) = ji52 := (i64_w _).trans hji52
                                by_cases c53 : 0 ≤ (ji52)
                                · rw [if_pos c53] at H
                                  have c53b0 := eq_true c53
                                  have c53b1 : decide (0 ≤ (ji52)) = true := decide_eq_true c53
                                  clear c53
                                  by_cases c54 : (ji52) ≤ (t529.length : Int)
                                  · rw [if_pos c54] at H
                                    have c54b0 := eq_true c54
                                    have c54b1 : decide ((ji52) ≤ (t529.length : Int)) = true := decide_eq_true c54
                                    clear c54
                                    obtain ⟨y538, hy538⟩ : ∃ y_ : List Int, y_ = (t529.take ((ji52) : Int).toNat) := ⟨_, rfl⟩
                                    replace H : ((lambrequinref10_Ints.f kj43 t535 y538).bind fun t542 => (if t542 = true then ((graph_Path.f kj43 t516 t517 (rd t529 x18_3) (Int.tmod (wrap64 (a3)) t516)).bind fun t544 => (if (t544.length : Int) = (wrap64 ((t529.length : Int) - x18_3)) then (lambrequinlaw10_GraphThrough.l1 kj43 t515 t516 t517 (Int.tmod (wrap64 (a2)) t516) (Int.tmod (wrap64 (a3)) t516) t529 ji52) else (some false))) else (some false))) = some r := by first | (rw [hy538]; with_reducible exact H) | (have H2_ := (Option.bind_some _ _).symm.trans H; rw [hy538]; with_reducible exact H2_) | (have H2_ := (Option.bind_some _ _).symm.trans H; with_reducible exact H2_) | with_reducible exact H | (rw [hy538]; exact H) | exact H
                                    have Ny538 := Aside0.mk hy538
                                    clear hy538
                                    replace H := Option.bind_eq_some_iff.mp H
                                    obtain ⟨t542, A550, H⟩ := H
                                    replace H : (if t542 = true then ((graph_Path.f kj43 t516 t517 (rd t529 x18_3) (Int.tmod (wrap64 (a3)) t516)).bind fun t544 => (if (t544.length : Int) = (wrap64 ((t529.length : Int) - x18_3)) then (lambrequinlaw10_GraphThrough.l1 kj43 t515 t516 t517 (Int.tmod (wrap64 (a2)) t516) (Int.tmod (wrap64 (a3)) t516) t529 ji52) else (some false))) else (some false)) = some r := H
                                    have A55 := Aside0.mk A550
                                    clear A550
                                    by_cases c56 : t542 = true
                                    · subst c56
                                      have H1 : ((graph_Path.f kj43 t516 t517 (rd t529 x18_3) (Int.tmod (wrap64 (a3)) t516)).bind fun t544 => (if (t544.length : Int) = (wrap64 ((t529.length : Int) - x18_3)) then (lambrequinlaw10_GraphThrough.l1 kj43 t515 t516 t517 (Int.tmod (wrap64 (a2)) t516) (Int.tmod (wrap64 (a3)) t516) t529 ji52) else (some false))) = some r := by rw [if_pos rfl] at H; exact H
                                      clear H
                                      have H := H1
                                      clear H1
                                      replace H := Option.bind_eq_some_iff.mp H
                                      obtain ⟨t544, A570, H⟩ := H
                                      replace H : (if (t544.length : Int) = (wrap64 ((t529.length : Int) - x18_3)) then (lambrequinlaw10_GraphThrough.l1 kj43 t515 t516 t517 (Int.tmod (wrap64 (a2)) t516) (Int.tmod (wrap64 (a3)) t516) t529 ji52) else (some false)) = some r := H
                                      have A57 := Aside0.mk A570
                                      clear A570
                                      by_cases c58 : (t544.length : Int) = (wrap64 ((t529.length : Int) - x18_3))
                                      · rw [if_pos c58] at H
                                        have c58b0 : ((t544.length : Int) == (wrap64 ((t529.length : Int) - x18_3))) = true := beq_iff_eq.mpr c58
                                        have c58b1 : ((t544.length : Int) != (wrap64 ((t529.length : Int) - x18_3))) = false := bne_eq_false_iff_eq.mpr c58
                                        clear c58
                                        have H' := Aside0.mk H
                                        clear H
                                        try go_wp2
                                        have n0_ := Aside0.mk (Kd.R_drew HO_11.out)
                                        have n1_ := Aside0.mk (Kd.R_drew HO_17.out)
                                        have n2_ := Aside0.mk (below_drew1 HB.out)
                                        clear HO_11
                                        clear HO_17
                                        clear HB
                                        have HO_11 := n0_
                                        have HO_17 := n1_
                                        have HB := n2_
                                        clear n0_ n1_ n2_
                                        have p534 : 0 ≤ (x18_3 : Int) := of_decide_eq_true (by first | (with_reducible assumption) | assumption)
                                        have q534 : x18_3 < (t529.length : Int) := of_decide_eq_true (by first | (with_reducible assumption) | assumption)
                                        obtain ⟨ad534, e534, hx534_0⟩ := Kd.at_int (Kd.R_reads' HO_17.out).2.2 x18_3 p534 q534
                                        cases e534
                                        replace p534 := eq_true p534
                                        replace q534 := eq_true q534
                                        have q60 : ((ji52) : Int) ≤ ((t529.length : Int) : Int) := of_decide_eq_true (by first | (with_reducible assumption) | assumption)
                                        obtain ⟨i060, hi060, _, hsz60, _⟩ := info_parts info3
                                        have hroom60 : t529.length ≤ co45 := (Kd.R_reads' HO_17.out).2.1
                                        have hC60 : Kd.C (Kd.int .i64) _ (some ad534) t529.length t529 := (Kd.R_reads' HO_17.out).2.2
                                        have hcut60 := cut_to (P := Try.prog) 35 3 .i64 Try.underlying35 hi060 (some ad534) t529.length co45 (ji52) (of_decide_eq_true (by first | (with_reducible assumption) | assumption)) q60 hroom60
                                        have hr60 := Kd.C_take (m := ((ji52) : Int).toNat) hC60 (by omega)
                                        have hy60 : y538.length = ((ji52) : Int).toNat := (by rw [Ny538.out, List.length_take]; omega)
                                        rw [← Ny538.out] at hr60
                                        rw [← hy60] at hcut60
                                        have HR541 := Aside0.mk hr60
                                        have HC541 := Aside0.mk (show y538.length ≤ co45 from by omega)
                                        clear hr60 hC60 hroom60 hi060 hsz60
                                        have KY60 := Aside0.mk hy60
                                        clear hy60
                                        have KL60 := Aside0.mk (show ((ji52) : Int).toNat ≤ t529.length from by omega)
                                        replace q60 := eq_true q60
                                        have p543 : 0 ≤ (x18_3 : Int) := of_decide_eq_true (by first | (with_reducible assumption) | assumption)
                                        have q543 : x18_3 < (t529.length : Int) := of_decide_eq_true (by first | (with_reducible assumption) | assumption)
                                        obtain ⟨ad543, e543, hx543_0⟩ := Kd.at_int (Kd.R_reads' HO_17.out).2.2 x18_3 p543 q543
                                        obtain rfl : ad534 = ad543 := (by injection e543)
                                        replace p543 := eq_true p543
                                        replace q543 := eq_true q543
                                        refine start_ (n := 30) (S := fun w' => w'.cell? (ad534.add (x18_3).toNat) = some (.int .i64 (rd t529 x18_3)) ∧ w'.cell? (ad534.add (x18_3).toNat) = some (.int .i64 (rd t529 x18_3))) (ds := []) #[false, false, false, false, false, false, false, false, false, false, false, false, false, false, false, false, false, false, false, false, false, false, false, false, false, false, false, false, false, false] (by kernel_rfl) rfl rfl ⟨hx534_0, hx543_0⟩ (fun hHeld => ?_); refine with_tabW lambrequinlaw10_GraphThrough.tab20 lambrequinlaw10_GraphThrough.bits20 (fun HT_ HW_ => ?_)
                                        generalize wc.drew = w59 at HO_11 HO_17 HB HR541 hx534_0 hx543_0 hHeld ⊢
                                        refine pure_ (i := 0) (N := some 98) (v := ?_) (a' := ?_) #[true, false, false, false, false, false, false, false, false, false, false, false, false, false, false, false, false, false, false, false, false, false, false, false, false, false, false, false, false, false] rfl rfl (any_of HT_.out (by kernel_rfl)) (fun _ _ _ h => h) (Or.inl ⟨by rfl, ?_⟩) ?_ ?_
                                        rotate_left
                                        · intro w'
                                          go_simp
                                          with_reducible rfl
                                        rotate_left
                                        · simp only [Act.put, List.setIfInBounds_toArray, List.set_cons_zero, List.set_cons_succ, i64_w, i32_w]
                                          rfl
                                        refine pure_ (i := 1) (N := some 99) (v := ?_) (a' := ?_) #[true, true, false, false, false, false, false, false, false, false, false, false, false, false, false, false, false, false, false, false, false, false, false, false, false, false, false, false, false, false] rfl rfl (any_of HT_.out (by kernel_rfl)) (fun _ _ _ h => h) (Or.inl ⟨by rfl, ?_⟩) ?_ ?_
                                        rotate_left
                                        · intro w'
                                          go_simp
                                          with_reducible rfl
                                        rotate_left
                                        · simp only [Act.put, List.setIfInBounds_toArray, List.set_cons_zero, List.set_cons_succ, i64_w, i32_w]
                                          rfl
                                        refine pure_ (i := 2) (N := some 100) (v := ?_) (a' := ?_) #[true, true, true, false, false, false, false, false, false, false, false, false, false, false, false, false, false, false, false, false, false, false, false, false, false, false, false, false, false, false] rfl rfl (any_of HT_.out (by kernel_rfl)) (fun _ _ _ h => h) (Or.inl ⟨by rfl, ?_⟩) ?_ ?_
                                        rotate_left
                                        · intro w'
                                          go_simp
                                          with_reducible rfl
                                        rotate_left
                                        · simp only [Act.put, List.setIfInBounds_toArray, List.set_cons_zero, List.set_cons_succ, i64_w, i32_w]
                                          rfl
                                        refine pure_ (i := 3) (N := some 101) (v := ?_) (a' := ?_) #[true, true, true, true, false, false, false, false, false, false, false, false, false, false, false, false, false, false, false, false, false, false, false, false, false, false, false, false, false, false] rfl rfl (any_of HT_.out (by kernel_rfl)) (fun _ _ _ h => h) (Or.inl ⟨by rfl, ?_⟩) ?_ ?_
                                        rotate_left
                                        · intro w'
                                          go_simp
                                          with_reducible rfl
                                        rotate_left
                                        · simp only [Act.put, List.setIfInBounds_toArray, List.set_cons_zero, List.set_cons_succ, i64_w, i32_w]
                                          rfl
                                        refine pure_ (i := 4) (N := some 102) (v := ?_) (a' := ?_) #[true, true, true, true, true, false, false, false, false, false, false, false, false, false, false, false, false, false, false, false, false, false, false, false, false, false, false, false, false, false] rfl rfl (any_of HT_.out (by kernel_rfl)) (fun _ _ _ h => h) (Or.inl ⟨by rfl, ?_⟩) ?_ ?_
                                        rotate_left
                                        · intro w'
                                          go_simp
                                          with_reducible rfl
                                        rotate_left
                                        · simp only [Act.put, List.setIfInBounds_toArray, List.set_cons_zero, List.set_cons_succ, i64_w, i32_w]
                                          rfl
                                        refine pure_ (i := 5) (N := some 103) (v := ?_) (a' := ?_) #[true, true, true, true, true, true, false, false, false, false, false, false, false, false, false, false, false, false, false, false, false, false, false, false, false, false, false, false, false, false] rfl rfl (any_of HT_.out (by kernel_rfl)) (fun _ _ _ h => h) (Or.inl ⟨by rfl, ?_⟩) ?_ ?_
                                        rotate_left
                                        · intro w'
                                          go_simp
                                          with_reducible rfl
                                        rotate_left
                                        · simp only [Act.put, List.setIfInBounds_toArray, List.set_cons_zero, List.set_cons_succ, i64_w, i32_w]
                                          rfl
                                        refine pure_ (i := 8) (N := some 106) (v := ?_) (a' := ?_) #[true, true, true, true, true, true, false, false, true, false, false, false, false, false, false, false, false, false, false, false, false, false, false, false, false, false, false, false, false, false] rfl rfl (any_of HT_.out (by kernel_rfl)) (fun _ _ _ h => h) (Or.inl ⟨by rfl, ?_⟩) ?_ ?_
                                        rotate_left
                                        · intro w'
                                          go_simp
                                          with_reducible rfl
                                        rotate_left
                                        · simp only [Act.put, List.setIfInBounds_toArray, List.set_cons_zero, List.set_cons_succ, i64_w, i32_w]
                                          rfl
                                        refine pure_ (i := 9) (N := some 107) (v := ?_) (a' := ?_) #[true, true, true, true, true, true, false, false, true, true, false, false, false, false, false, false, false, false, false, false, false, false, false, false, false, false, false, false, false, false] rfl rfl (any_of HT_.out (by kernel_rfl)) (fun _ _ _ h => h) (Or.inl ⟨by rfl, ?_⟩) ?_ ?_
                                        rotate_left
                                        · intro w'
                                          go_simp
                                          with_reducible rfl
                                        rotate_left
                                        · simp only [Act.put, List.setIfInBounds_toArray, List.set_cons_zero, List.set_cons_succ, i64_w, i32_w]
                                          rfl
                                        refine pure_ (i := 10) (N := some 108) (v := ?_) (a' := ?_) #[true, true, true, true, true, true, false, false, true, true, true, false, false, false, false, false, false, false, false, false, false, false, false, false, false, false, false, false, false, false] rfl rfl (any_of HT_.out (by kernel_rfl)) (fun _ _ _ h => h) (Or.inl ⟨by rfl, ?_⟩) ?_ ?_
                                        rotate_left
                                        · intro w'
                                          go_simp
                                          with_reducible rfl
                                        rotate_left
                                        · simp only [Act.put, List.setIfInBounds_toArray, List.set_cons_zero, List.set_cons_succ, i64_w, i32_w]
                                          rfl
                                        refine pure_ (i := 11) (N := some 109) (v := ?_) (a' := ?_) #[true, true, true, true, true, true, false, false, true, true, true, true, false, false, false, false, false, false, false, false, false, false, false, false, false, false, false, false, false, false] rfl rfl (any_of HT_.out (by kernel_rfl)) (fun _ _ _ h => h) (Or.inl ⟨by rfl, ?_⟩) ?_ ?_
                                        rotate_left
                                        · intro w'
                                          go_simp
                                          with_reducible rfl
                                        rotate_left
                                        · simp only [Act.put, List.setIfInBounds_toArray, List.set_cons_zero, List.set_cons_succ, i64_w, i32_w]
                                          rfl
                                        refine take_ (i := 6) (N := some 104) (v := ?_) (a' := ?_) #[true, true, true, true, true, true, true, false, true, true, true, true, false, false, false, false, false, false, false, false, false, false, false, false, false, false, false, false, false, false] rfl rfl (take_ofW HT_.out HW_.out (by kernel_rfl)) (fun _ _ _ h => h) (Or.inl ⟨by rfl, ?_⟩) hHeld ?_ ?_
                                        rotate_left
                                        · rintro w' ⟨s0, s1⟩
                                          go_simp
                                          with_reducible rfl
                                        rotate_left
                                        · simp only [Act.put, List.setIfInBounds_toArray, List.set_cons_zero, List.set_cons_succ, i64_w, i32_w]
                                          rfl
                                        refine one_ (i := 7) (N := some 105) #[true, true, true, true, true, true, true, true, true, true, true, true, false, false, false, false, false, false, false, false, false, false, false, false, false, false, false, false, false, false] rfl rfl (one_of HT_.out (by kernel_rfl)) (by decide) (fun K hK => ?_)
                                        refine goes_ Try.func20 (by kernel_rfl) rfl #[.int .i64 t516, .slice Ao13 t517.length co13, .int .i64 (Int.tmod (wrap64 (a2)) t516), .int .i64 (rd t529 x18_3)] (by rfl) rfl rfl (by (try simp only [List.map_toArray, List.map_cons, List.map_nil]); first | done | rfl | (simp only [List.length_drop, List.length_take]; rfl)) ?_
                                        with_reducible refine (graph_Path.calls kj43 t516 _ _ t517 (Int.tmod (wrap64 (a2)) t516) (rd t529 x18_3) t535 _ ?side1 ?side2 A51.out).mono ?_
                                        (case side1 => repeat (first | exact (Kd.R_reads' HO_11.out).2.2 | (with_reducible refine Kd.C_alloc ?_ _) | (with_reducible refine Kd.C_drewN ?_ _) | (with_reducible refine Kd.C_drew ?_)))
                                        (case side2 => exact (Kd.R_reads' HO_11.out).2.1)
                                        rintro e w61 ⟨v536, rfl, ho0, hb⟩
                                        have HS0_ := (hb.cell (World.block_lt_of_cell? _ _ (hHeld.1))).trans (hHeld.1)
                                        have HS1_ := (hb.cell (World.block_lt_of_cell? _ _ (hHeld.2))).trans (hHeld.2)
                                        refine ⟨_, rfl, ?_⟩
                                        have n0_ := Aside0.mk (Kd.R_below (by (with_reducible repeat (first | apply Kd.R_alloc | apply Kd.R_drewN | apply Kd.R_drew)); exact HO_11.out) hb)
                                        have n1_ := Aside0.mk (Kd.R_elder' (by (with_reducible repeat (first | apply Kd.R_alloc | apply Kd.R_drewN | apply Kd.R_drew)); exact HO_17.out) (Kd.R_base ho0) hb)
                                        have n2_ := Aside0.mk (Kd.R_lower (Kd.R_new' ho0 (Kd.R_lt (by (with_reducible repeat (first | apply Kd.R_alloc | apply Kd.R_drewN | apply Kd.R_drew)); exact HO_17.out))) (below_size (by repeat (first | (with_reducible first | exact HB.out | apply below_alloc | apply pw_below_drewN | apply below_drew1) | exact HB.out))))
                                        have n3_ := Aside0.mk (Kd.C_below (by repeat (first | (with_reducible exact HR541.out) | (with_reducible refine Kd.C_alloc ?_ _) | (with_reducible refine Kd.C_drewN ?_ _) | (with_reducible refine Kd.C_drew ?_) | exact HR541.out)) hb)
                                        have n4_ := Aside0.mk (below_step (by repeat (first | (with_reducible first | exact HB.out | apply below_alloc | apply pw_below_drewN | apply below_drew1) | exact HB.out)) hb)
                                        clear HO_11
                                        clear HO_17
                                        clear HR541
                                        clear HB
                                        have HO_11 := n0_
                                        have HO_17 := n1_
                                        have HO537 := n2_
                                        have HR541 := n3_
                                        have HB := n4_
                                        clear n0_ n1_ n2_ n3_ n4_
                                        (try clear hb)
                                        (try clear hb2)
                                        (try clear hk)
                                        (try clear hi)
                                        (try clear ho0)
                                        obtain ⟨Ao62, co62, eo62⟩ := Kd.R_slice HO537.out
                                        (first | subst eo62 | (injection eo62 with f1_ f2_ f3_; have f4_ := f1_.symm; have f5_ := f3_.symm; clear f1_ f2_ f3_; subst f4_; subst f5_))
                                        refine hK.out _ _ ⟨HS0_, HS1_⟩ (fun hHeld => ?_)
                                        clear hK K
                                        refine norm_ (a' := ?_) ?_ ?_
                                        rotate_left
                                        · show Act.put _ (some 105) _ = _
                                          simp only [Act.put, List.setIfInBounds_toArray, List.set_cons_zero, List.set_cons_succ, i64_w, i32_w]
                                          rfl
                                        refine one_ (i := 12) (N := some 110) #[true, true, true, true, true, true, true, true, true, true, true, true, true, false, false, false, false, false, false, false, false, false, false, false, false, false, false, false, false, false] rfl rfl (one_of HT_.out (by kernel_rfl)) (by decide) (fun K hK => ?_)
                                        refine goes_ Try.func19 (by kernel_rfl) rfl #[.slice Ao62 t535.length co62, .slice (some ad534) y538.length co45] (by rfl) rfl rfl (by (try simp only [List.map_toArray, List.map_cons, List.map_nil]); first | done | rfl | (simp only [List.length_drop, List.length_take]; rfl)) ?_
                                        with_reducible refine (lambrequinref10_Ints.calls kj43 _ _ t535 _ _ y538 true _ ?side1 ?side2 ?side3 ?side4 A55.out).mono ?_
                                        (case side1 => repeat (first | exact (Kd.R_reads' HO537.out).2.2 | (with_reducible refine Kd.C_alloc ?_ _) | (with_reducible refine Kd.C_drewN ?_ _) | (with_reducible refine Kd.C_drew ?_)))
                                        (case side2 => exact (Kd.R_reads' HO537.out).2.1)
                                        (case side3 => repeat (first | exact (by repeat (first | (with_reducible exact HR541.out) | (with_reducible refine Kd.C_alloc ?_ _) | (with_reducible refine Kd.C_drewN ?_ _) | (with_reducible refine Kd.C_drew ?_) | exact HR541.out)) | (with_reducible refine Kd.C_alloc ?_ _) | (with_reducible refine Kd.C_drewN ?_ _) | (with_reducible refine Kd.C_drew ?_)))
                                        (case side4 => exact HC541.out)
                                        rintro e w' ⟨rfl, ⟨nd, rfl⟩⟩
                                        refine ⟨_, rfl, ?_⟩
                                        refine hK.out _ _ ⟨hHeld.1, hHeld.2⟩ (fun hHeld => ?_)
                                        clear hK K
                                        refine norm_ (a' := ?_) ?_ ?_
                                        rotate_left
                                        · show Act.put _ (some 110) _ = _
                                          simp only [Act.put, List.setIfInBounds_toArray, List.set_cons_zero, List.set_cons_succ, i64_w, i32_w]
                                          rfl
                                        refine pure_ (i := 13) (N := some 111) (v := ?_) (a' := ?_) #[true, true, true, true, true, true, true, true, true, true, true, true, true, true, false, false, false, false, false, false, false, false, false, false, false, false, false, false, false, false] rfl rfl (any_of HT_.out (by kernel_rfl)) (fun _ _ _ h => h) (Or.inl ⟨by rfl, ?_⟩) ?_ ?_
                                        rotate_left
                                        · intro w'
                                          go_simp
                                          with_reducible rfl
                                        rotate_left
                                        · simp only [Act.put, List.setIfInBounds_toArray, List.set_cons_zero, List.set_cons_succ, i64_w, i32_w]
                                          rfl
                                        refine pure_ (i := 14) (N := some 112) (v := ?_) (a' := ?_) #[true, true, true, true, true, true, true, true, true, true, true, true, true, true, true, false, false, false, false, false, false, false, false, false, false, false, false, false, false, false] rfl rfl (any_of HT_.out (by kernel_rfl)) (fun _ _ _ h => h) (Or.inl ⟨by rfl, ?_⟩) ?_ ?_
                                        rotate_left
                                        · intro w'
                                          go_simp
                                          with_reducible rfl
                                        rotate_left
                                        · simp only [Act.put, List.setIfInBounds_toArray, List.set_cons_zero, List.set_cons_succ, i64_w, i32_w]
                                          rfl
                                        refine pure_ (i := 15) (N := some 113) (v := ?_) (a' := ?_) #[true, true, true, true, true, true, true, true, true, true, true, true, true, true, true, true, false, false, false, false, false, false, false, false, false, false, false, false, false, false] rfl rfl (any_of HT_.out (by kernel_rfl)) (fun _ _ _ h => h) (Or.inl ⟨by rfl, ?_⟩) ?_ ?_
                                        rotate_left
                                        · intro w'
                                          go_simp
                                          with_reducible rfl
                                        rotate_left
                                        · simp only [Act.put, List.setIfInBounds_toArray, List.set_cons_zero, List.set_cons_succ, i64_w, i32_w]
                                          rfl
                                        refine pure_ (i := 16) (N := some 114) (v := ?_) (a' := ?_) #[true, true, true, true, true, true, true, true, true, true, true, true, true, true, true, true, true, false, false, false, false, false, false, false, false, false, false, false, false, false] rfl rfl (any_of HT_.out (by kernel_rfl)) (fun _ _ _ h => h) (Or.inl ⟨by rfl, ?_⟩) ?_ ?_
                                        rotate_left
                                        · intro w'
                                          go_simp
                                          with_reducible rfl
                                        rotate_left
                                        · simp only [Act.put, List.setIfInBounds_toArray, List.set_cons_zero, List.set_cons_succ, i64_w, i32_w]
                                          rfl
                                        refine pure_ (i := 17) (N := some 115) (v := ?_) (a' := ?_) #[true, true, true, true, true, true, true, true, true, true, true, true, true, true, true, true, true, true, false, false, false, false, false, false, false, false, false, false, false, false] rfl rfl (any_of HT_.out (by kernel_rfl)) (fun _ _ _ h => h) (Or.inl ⟨by rfl, ?_⟩) ?_ ?_
                                        rotate_left
                                        · intro w'
                                          go_simp
                                          with_reducible rfl
                                        rotate_left
                                        · simp only [Act.put, List.setIfInBounds_toArray, List.set_cons_zero, List.set_cons_succ, i64_w, i32_w]
                                          rfl
                                        refine pure_ (i := 18) (N := some 116) (v := ?_) (a' := ?_) #[true, true, true, true, true, true, true, true, true, true, true, true, true, true, true, true, true, true, true, false, false, false, false, false, false, false, false, false, false, false] rfl rfl (any_of HT_.out (by kernel_rfl)) (fun _ _ _ h => h) (Or.inl ⟨by rfl, ?_⟩) ?_ ?_
                                        rotate_left
                                        · intro w'
                                          go_simp
                                          with_reducible rfl
                                        rotate_left
                                        · simp only [Act.put, List.setIfInBounds_toArray, List.set_cons_zero, List.set_cons_succ, i64_w, i32_w]
                                          rfl
                                        refine pure_ (i := 19) (N := some 117) (v := ?_) (a' := ?_) #[true, true, true, true, true, true, true, true, true, true, true, true, true, true, true, true, true, true, true, true, false, false, false, false, false, false, false, false, false, false] rfl rfl (any_of HT_.out (by kernel_rfl)) (fun _ _ _ h => h) (Or.inl ⟨by rfl, ?_⟩) ?_ ?_
                                        rotate_left
                                        · intro w'
                                          go_simp
                                          with_reducible rfl
                                        rotate_left
                                        · simp only [Act.put, List.setIfInBounds_toArray, List.set_cons_zero, List.set_cons_succ, i64_w, i32_w]
                                          rfl
                                        refine pure_ (i := 21) (N := some 119) (v := ?_) (a' := ?_) #[true, true, true, true, true, true, true, true, true, true, true, true, true, true, true, true, true, true, true, true, false, true, false, false, false, false, false, false, false, false] rfl rfl (any_of HT_.out (by kernel_rfl)) (fun _ _ _ h => h) (Or.inl ⟨by rfl, ?_⟩) ?_ ?_
                                        rotate_left
                                        · intro w'
                                          go_simp
                                          with_reducible rfl
                                        rotate_left
                                        · simp only [Act.put, List.setIfInBounds_toArray, List.set_cons_zero, List.set_cons_succ, i64_w, i32_w]
                                          rfl
                                        refine pure_ (i := 24) (N := some 122) (v := ?_) (a' := ?_) #[true, true, true, true, true, true, true, true, true, true, true, true, true, true, true, true, true, true, true, true, false, true, false, false, true, false, false, false, false, false] rfl rfl (any_of HT_.out (by kernel_rfl)) (fun _ _ _ h => h) (Or.inl ⟨by rfl, ?_⟩) ?_ ?_
                                        rotate_left
                                        · intro w'
                                          go_simp
                                          with_reducible rfl
                                        rotate_left
                                        · simp only [Act.put, List.setIfInBounds_toArray, List.set_cons_zero, List.set_cons_succ, i64_w, i32_w]
                                          rfl
                                        refine pure_ (i := 25) (N := some 123) (v := ?_) (a' := ?_) #[true, true, true, true, true, true, true, true, true, true, true, true, true, true, true, true, true, true, true, true, false, true, false, false, true, true, false, false, false, false] rfl rfl (any_of HT_.out (by kernel_rfl)) (fun _ _ _ h => h) (Or.inl ⟨by rfl, ?_⟩) ?_ ?_
                                        rotate_left
                                        · intro w'
                                          go_simp
                                          with_reducible rfl
                                        rotate_left
                                        · simp only [Act.put, List.setIfInBounds_toArray, List.set_cons_zero, List.set_cons_succ, i64_w, i32_w]
                                          rfl
                                        refine pure_ (i := 26) (N := some 124) (v := ?_) (a' := ?_) #[true, true, true, true, true, true, true, true, true, true, true, true, true, true, true, true, true, true, true, true, false, true, false, false, true, true, true, false, false, false] rfl rfl (any_of HT_.out (by kernel_rfl)) (fun _ _ _ h => h) (Or.inl ⟨by rfl, ?_⟩) ?_ ?_
                                        rotate_left
                                        · intro w'
                                          go_simp
                                          with_reducible rfl
                                        rotate_left
                                        · simp only [Act.put, List.setIfInBounds_toArray, List.set_cons_zero, List.set_cons_succ, i64_w, i32_w]
                                          rfl
                                        refine pure_ (i := 27) (N := some 125) (v := ?_) (a' := ?_) #[true, true, true, true, true, true, true, true, true, true, true, true, true, true, true, true, true, true, true, true, false, true, false, false, true, true, true, true, false, false] rfl rfl (any_of HT_.out (by kernel_rfl)) (fun _ _ _ h => h) (Or.inl ⟨by rfl, ?_⟩) ?_ ?_
                                        rotate_left
                                        · intro w'
                                          go_simp
                                          with_reducible rfl
                                        rotate_left
                                        · simp only [Act.put, List.setIfInBounds_toArray, List.set_cons_zero, List.set_cons_succ, i64_w, i32_w]
                                          rfl
                                        refine take_ (i := 20) (N := some 118) (v := ?_) (a' := ?_) #[true, true, true, true, true, true, true, true, true, true, true, true, true, true, true, true, true, true, true, true, true, true, false, false, true, true, true, true, false, false] rfl rfl (take_ofW HT_.out HW_.out (by kernel_rfl)) (fun _ _ _ h => h) (Or.inl ⟨by rfl, ?_⟩) hHeld ?_ ?_
                                        rotate_left
                                        · rintro w' ⟨s0, s1⟩
                                          go_simp
                                          with_reducible rfl
                                        rotate_left
                                        · simp only [Act.put, List.setIfInBounds_toArray, List.set_cons_zero, List.set_cons_succ, i64_w, i32_w]
                                          rfl
                                        refine one_ (i := 22) (N := some 120) #[true, true, true, true, true, true, true, true, true, true, true, true, true, true, true, true, true, true, true, true, true, true, true, false, true, true, true, true, false, false] rfl rfl (one_of HT_.out (by kernel_rfl)) (by decide) (fun K hK => ?_)
                                        refine goes_ Try.func20 (by kernel_rfl) rfl #[.int .i64 t516, .slice Ao13 t517.length co13, .int .i64 (rd t529 x18_3), .int .i64 (Int.tmod (wrap64 (a3)) t516)] (by rfl) rfl rfl (by (try simp only [List.map_toArray, List.map_cons, List.map_nil]); first | done | rfl | (simp only [List.length_drop, List.length_take]; rfl)) ?_
                                        with_reducible refine (graph_Path.calls kj43 t516 _ _ t517 (rd t529 x18_3) (Int.tmod (wrap64 (a3)) t516) t544 _ ?side1 ?side2 A57.out).mono ?_
                                        (case side1 => repeat (first | exact (Kd.R_reads' HO_11.out).2.2 | (with_reducible refine Kd.C_alloc ?_ _) | (with_reducible refine Kd.C_drewN ?_ _) | (with_reducible refine Kd.C_drew ?_)))
                                        (case side2 => exact (Kd.R_reads' HO_11.out).2.1)
                                        rintro e w63 ⟨v545, rfl, ho0, hb⟩
                                        have HS0_ := (hb.cell (World.block_lt_of_cell? _ _ (hHeld.1))).trans (hHeld.1)
                                        have HS1_ := (hb.cell (World.block_lt_of_cell? _ _ (hHeld.2))).trans (hHeld.2)
                                        refine ⟨_, rfl, ?_⟩
                                        have n0_ := Aside0.mk (Kd.R_below (by (with_reducible repeat (first | apply Kd.R_alloc | apply Kd.R_drewN | apply Kd.R_drew)); exact HO_11.out) hb)
                                        have n1_ := Aside0.mk (Kd.R_elder' (by (with_reducible repeat (first | apply Kd.R_alloc | apply Kd.R_drewN | apply Kd.R_drew)); exact HO_17.out) (Kd.R_base ho0) hb)
                                        have n2_ := Aside0.mk (Kd.R_elder' (by (with_reducible repeat (first | apply Kd.R_alloc | apply Kd.R_drewN | apply Kd.R_drew)); exact HO537.out) (Kd.R_base ho0) hb)
                                        have n3_ := Aside0.mk (Kd.R_lower (Kd.R_new' (Kd.R_new' ho0 (Kd.R_lt (by (with_reducible repeat (first | apply Kd.R_alloc | apply Kd.R_drewN | apply Kd.R_drew)); exact HO_17.out))) (Kd.R_lt (by (with_reducible repeat (first | apply Kd.R_alloc | apply Kd.R_drewN | apply Kd.R_drew)); exact HO537.out))) (below_size (by repeat (first | (with_reducible first | exact HB.out | apply below_alloc | apply pw_below_drewN | apply below_drew1) | exact HB.out))))
                                        have n4_ := Aside0.mk (Kd.C_below (by repeat (first | (with_reducible exact HR541.out) | (with_reducible refine Kd.C_alloc ?_ _) | (with_reducible refine Kd.C_drewN ?_ _) | (with_reducible refine Kd.C_drew ?_) | exact HR541.out)) hb)
                                        have n5_ := Aside0.mk (below_step (by repeat (first | (with_reducible first | exact HB.out | apply below_alloc | apply pw_below_drewN | apply below_drew1) | exact HB.out)) hb)
                                        clear HO_11
                                        clear HO_17
                                        clear HO537
                                        clear HR541
                                        clear HB
                                        have HO_11 := n0_
                                        have HO_17 := n1_
                                        have HO537 := n2_
                                        have HO546 := n3_
                                        have HR541 := n4_
                                        have HB := n5_
                                        clear n0_ n1_ n2_ n3_ n4_ n5_
                                        (try clear hb)
                                        (try clear hb2)
                                        (try clear hk)
                                        (try clear hi)
                                        (try clear ho0)
                                        obtain ⟨Ao64, co64, eo64⟩ := Kd.R_slice HO546.out
                                        (first | subst eo64 | (injection eo64 with f1_ f2_ f3_; have f4_ := f1_.symm; have f5_ := f3_.symm; clear f1_ f2_ f3_; subst f4_; subst f5_))
                                        refine hK.out _ _ ⟨HS0_, HS1_⟩ (fun hHeld => ?_)
                                        clear hK K
                                        refine norm_ (a' := ?_) ?_ ?_
                                        rotate_left
                                        · show Act.put _ (some 120) _ = _
                                          simp only [Act.put, List.setIfInBounds_toArray, List.set_cons_zero, List.set_cons_succ, i64_w, i32_w]
                                          rfl
                                        refine pure_ (i := 23) (N := some 121) (v := ?_) (a' := ?_) #[true, true, true, true, true, true, true, true, true, true, true, true, true, true, true, true, true, true, true, true, true, true, true, true, true, true, true, true, false, false] rfl rfl (any_of HT_.out (by kernel_rfl)) (fun _ _ _ h => h) (Or.inl ⟨by rfl, ?_⟩) ?_ ?_
                                        rotate_left
                                        · intro w'
                                          go_simp
                                          with_reducible rfl
                                        rotate_left
                                        · simp only [Act.put, List.setIfInBounds_toArray, List.set_cons_zero, List.set_cons_succ, i64_w, i32_w]
                                          rfl
                                        refine pure_ (i := 28) (N := some 126) (v := ?_) (a' := ?_) #[true, true, true, true, true, true, true, true, true, true, true, true, true, true, true, true, true, true, true, true, true, true, true, true, true, true, true, true, true, false] rfl rfl (any_of HT_.out (by kernel_rfl)) (fun _ _ _ h => h) (Or.inl ⟨by rfl, ?_⟩) ?_ ?_
                                        rotate_left
                                        · intro w'
                                          go_simp
                                          with_reducible rfl
                                        rotate_left
                                        · simp only [Act.put, List.setIfInBounds_toArray, List.set_cons_zero, List.set_cons_succ, i64_w, i32_w]
                                          rfl
                                        refine pure_ (i := 29) (N := some 127) (v := ?_) (a' := ?_) #[true, true, true, true, true, true, true, true, true, true, true, true, true, true, true, true, true, true, true, true, true, true, true, true, true, true, true, true, true, true] rfl rfl (any_of HT_.out (by kernel_rfl)) (fun _ _ _ h => h) (Or.inl ⟨by rfl, ?_⟩) ?_ ?_
                                        rotate_left
                                        · intro w'
                                          go_simp
                                          with_reducible rfl
                                        rotate_left
                                        · simp only [Act.put, List.setIfInBounds_toArray, List.set_cons_zero, List.set_cons_succ, i64_w, i32_w]
                                          rfl
                                        refine done_ (done_of HT_.out (by kernel_rfl)) ?_
                                        try go_wp2
                                        go_roundg kj43
                                        case measure => have := HJ9.out; have := HK2.out; have := HK3.out; have := HJ43.out; omega
                                        case rel => exact ⟨(ji52), (by first | rfl | (simp; done) | (simp only [← hji52] <;> (first | rfl | simp)) | (simp [*]; done)), H', ⟨by have := HJ9.out; have := HK2.out; have := HK3.out; have := HJ43.out; omega⟩, ⟨by (with_reducible repeat (first | apply Kd.R_alloc | apply Kd.R_drewN | apply Kd.R_drew)); exact HO_11.out⟩, ⟨by (with_reducible repeat (first | apply Kd.R_alloc | apply Kd.R_drewN | apply Kd.R_drew)); exact Kd.R_mono HO_17.out (fun _ hk => trivial)⟩, ⟨by repeat (first | (with_reducible first | exact HB.out | apply below_alloc | apply pw_below_drewN | apply below_drew1) | exact HB.out)⟩⟩
                                      · rw [if_neg c58] at H
                                        have c58b0 : ((t544.length : Int) == (wrap64 ((t529.length : Int) - x18_3))) = false := beq_eq_false_iff_ne.mpr c58
                                        have c58b1 : ((t544.length : Int) != (wrap64 ((t529.length : Int) - x18_3))) = true := bne_iff_ne.mpr c58
                                        obtain rfl := Option.some.inj H
                                        try go_wp2
                                        have n0_ := Aside0.mk (Kd.R_drew HO_11.out)
                                        have n1_ := Aside0.mk (Kd.R_drew HO_17.out)
                                        have n2_ := Aside0.mk (below_drew1 HB.out)
                                        clear HO_11
                                        clear HO_17
                                        clear HB
                                        have HO_11 := n0_
                                        have HO_17 := n1_
                                        have HB := n2_
                                        clear n0_ n1_ n2_
                                        have p534 : 0 ≤ (x18_3 : Int) := of_decide_eq_true (by first | (with_reducible assumption) | assumption)
                                        have q534 : x18_3 < (t529.length : Int) := of_decide_eq_true (by first | (with_reducible assumption) | assumption)
                                        obtain ⟨ad534, e534, hx534_0⟩ := Kd.at_int (Kd.R_reads' HO_17.out).2.2 x18_3 p534 q534
                                        cases e534
                                        replace p534 := eq_true p534
                                        replace q534 := eq_true q534
                                        have q66 : ((ji52) : Int) ≤ ((t529.length : Int) : Int) := of_decide_eq_true (by first | (with_reducible assumption) | assumption)
                                        obtain ⟨i066, hi066, _, hsz66, _⟩ := info_parts info3
                                        have hroom66 : t529.length ≤ co45 := (Kd.R_reads' HO_17.out).2.1
                                        have hC66 : Kd.C (Kd.int .i64) _ (some ad534) t529.length t529 := (Kd.R_reads' HO_17.out).2.2
                                        have hcut66 := cut_to (P := Try.prog) 35 3 .i64 Try.underlying35 hi066 (some ad534) t529.length co45 (ji52) (of_decide_eq_true (by first | (with_reducible assumption) | assumption)) q66 hroom66
                                        have hr66 := Kd.C_take (m := ((ji52) : Int).toNat) hC66 (by omega)
                                        have hy66 : y538.length = ((ji52) : Int).toNat := (by rw [Ny538.out, List.length_take]; omega)
                                        rw [← Ny538.out] at hr66
                                        rw [← hy66] at hcut66
                                        have HR541 := Aside0.mk hr66
                                        have HC541 := Aside0.mk (show y538.length ≤ co45 from by omega)
                                        clear hr66 hC66 hroom66 hi066 hsz66
                                        have KY66 := Aside0.mk hy66
                                        clear hy66
                                        have KL66 := Aside0.mk (show ((ji52) : Int).toNat ≤ t529.length from by omega)
                                        replace q66 := eq_true q66
                                        have p543 : 0 ≤ (x18_3 : Int) := of_decide_eq_true (by first | (with_reducible assumption) | assumption)
                                        have q543 : x18_3 < (t529.length : Int) := of_decide_eq_true (by first | (with_reducible assumption) | assumption)
                                        obtain ⟨ad543, e543, hx543_0⟩ := Kd.at_int (Kd.R_reads' HO_17.out).2.2 x18_3 p543 q543
                                        obtain rfl : ad534 = ad543 := (by injection e543)
                                        replace p543 := eq_true p543
                                        replace q543 := eq_true q543
                                        refine start_ (n := 30) (S := fun w' => w'.cell? (ad534.add (x18_3).toNat) = some (.int .i64 (rd t529 x18_3)) ∧ w'.cell? (ad534.add (x18_3).toNat) = some (.int .i64 (rd t529 x18_3))) (ds := []) #[false, false, false, false, false, false, false, false, false, false, false, false, false, false, false, false, false, false, false, false, false, false, false, false, false, false, false, false, false, false] (by kernel_rfl) rfl rfl ⟨hx534_0, hx543_0⟩ (fun hHeld => ?_); refine with_tabW lambrequinlaw10_GraphThrough.tab20 lambrequinlaw10_GraphThrough.bits20 (fun HT_ HW_ => ?_)
                                        generalize wc.drew = w65 at HO_11 HO_17 HB HR541 hx534_0 hx543_0 hHeld ⊢
                                        refine pure_ (i := 0) (N := some 98) (v := ?_) (a' := ?_) #[true, false, false, false, false, false, false, false, false, false, false, false, false, false, false, false, false, false, false, false, false, false, false, false, false, false, false, false, false, false] rfl rfl (any_of HT_.out (by kernel_rfl)) (fun _ _ _ h => h) (Or.inl ⟨by rfl, ?_⟩) ?_ ?_
                                        rotate_left
                                        · intro w'
                                          go_simp
                                          with_reducible rfl
                                        rotate_left
                                        · simp only [Act.put, List.setIfInBounds_toArray, List.set_cons_zero, List.set_cons_succ, i64_w, i32_w]
                                          rfl
                                        refine pure_ (i := 1) (N := some 99) (v := ?_) (a' := ?_) #[true, true, false, false, false, false, false, false, false, false, false, false, false, false, false, false, false, false, false, false, false, false, false, false, false, false, false, false, false, false] rfl rfl (any_of HT_.out (by kernel_rfl)) (fun _ _ _ h => h) (Or.inl ⟨by rfl, ?_⟩) ?_ ?_
                                        rotate_left
                                        · intro w'
                                          go_simp
                                          with_reducible rfl
                                        rotate_left
                                        · simp only [Act.put, List.setIfInBounds_toArray, List.set_cons_zero, List.set_cons_succ, i64_w, i32_w]
                                          rfl
                                        refine pure_ (i := 2) (N := some 100) (v := ?_) (a' := ?_) #[true, true, true, false, false, false, false, false, false, false, false, false, false, false, false, false, false, false, false, false, false, false, false, false, false, false, false, false, false, false] rfl rfl (any_of HT_.out (by kernel_rfl)) (fun _ _ _ h => h) (Or.inl ⟨by rfl, ?_⟩) ?_ ?_
                                        rotate_left
                                        · intro w'
                                          go_simp
                                          with_reducible rfl
                                        rotate_left
                                        · simp only [Act.put, List.setIfInBounds_toArray, List.set_cons_zero, List.set_cons_succ, i64_w, i32_w]
                                          rfl
                                        refine pure_ (i := 3) (N := some 101) (v := ?_) (a' := ?_) #[true, true, true, true, false, false, false, false, false, false, false, false, false, false, false, false, false, false, false, false, false, false, false, false, false, false, false, false, false, false] rfl rfl (any_of HT_.out (by kernel_rfl)) (fun _ _ _ h => h) (Or.inl ⟨by rfl, ?_⟩) ?_ ?_
                                        rotate_left
                                        · intro w'
                                          go_simp
                                          with_reducible rfl
                                        rotate_left
                                        · simp only [Act.put, List.setIfInBounds_toArray, List.set_cons_zero, List.set_cons_succ, i64_w, i32_w]
                                          rfl
                                        refine pure_ (i := 4) (N := some 102) (v := ?_) (a' := ?_) #[true, true, true, true, true, false, false, false, false, false, false, false, false, false, false, false, false, false, false, false, false, false, false, false, false, false, false, false, false, false] rfl rfl (any_of HT_.out (by kernel_rfl)) (fun _ _ _ h => h) (Or.inl ⟨by rfl, ?_⟩) ?_ ?_
                                        rotate_left
                                        · intro w'
                                          go_simp
                                          with_reducible rfl
                                        rotate_left
                                        · simp only [Act.put, List.setIfInBounds_toArray, List.set_cons_zero, List.set_cons_succ, i64_w, i32_w]
                                          rfl
                                        refine pure_ (i := 5) (N := some 103) (v := ?_) (a' := ?_) #[true, true, true, true, true, true, false, false, false, false, false, false, false, false, false, false, false, false, false, false, false, false, false, false, false, false, false, false, false, false] rfl rfl (any_of HT_.out (by kernel_rfl)) (fun _ _ _ h => h) (Or.inl ⟨by rfl, ?_⟩) ?_ ?_
                                        rotate_left
                                        · intro w'
                                          go_simp
                                          with_reducible rfl
                                        rotate_left
                                        · simp only [Act.put, List.setIfInBounds_toArray, List.set_cons_zero, List.set_cons_succ, i64_w, i32_w]
                                          rfl
                                        refine pure_ (i := 8) (N := some 106) (v := ?_) (a' := ?_) #[true, true, true, true, true, true, false, false, true, false, false, false, false, false, false, false, false, false, false, false, false, false, false, false, false, false, false, false, false, false] rfl rfl (any_of HT_.out (by kernel_rfl)) (fun _ _ _ h => h) (Or.inl ⟨by rfl, ?_⟩) ?_ ?_
                                        rotate_left
                                        · intro w'
                                          go_simp
                                          with_reducible rfl
                                        rotate_left
                                        · simp only [Act.put, List.setIfInBounds_toArray, List.set_cons_zero, List.set_cons_succ, i64_w, i32_w]
                                          rfl
                                        refine pure_ (i := 9) (N := some 107) (v := ?_) (a' := ?_) #[true, true, true, true, true, true, false, false, true, true, false, false, false, false, false, false, false, false, false, false, false, false, false, false, false, false, false, false, false, false] rfl rfl (any_of HT_.out (by kernel_rfl)) (fun _ _ _ h => h) (Or.inl ⟨by rfl, ?_⟩) ?_ ?_
                                        rotate_left
                                        · intro w'
                                          go_simp
                                          with_reducible rfl
                                        rotate_left
                                        · simp only [Act.put, List.setIfInBounds_toArray, List.set_cons_zero, List.set_cons_succ, i64_w, i32_w]
                                          rfl
                                        refine pure_ (i := 10) (N := some 108) (v := ?_) (a' := ?_) #[true, true, true, true, true, true, false, false, true, true, true, false, false, false, false, false, false, false, false, false, false, false, false, false, false, false, false, false, false, false] rfl rfl (any_of HT_.out (by kernel_rfl)) (fun _ _ _ h => h) (Or.inl ⟨by rfl, ?_⟩) ?_ ?_
                                        rotate_left
                                        · intro w'
                                          go_simp
                                          with_reducible rfl
                                        rotate_left
                                        · simp only [Act.put, List.setIfInBounds_toArray, List.set_cons_zero, List.set_cons_succ, i64_w, i32_w]
                                          rfl
                                        refine pure_ (i := 11) (N := some 109) (v := ?_) (a' := ?_) #[true, true, true, true, true, true, false, false, true, true, true, true, false, false, false, false, false, false, false, false, false, false, false, false, false, false, false, false, false, false] rfl rfl (any_of HT_.out (by kernel_rfl)) (fun _ _ _ h => h) (Or.inl ⟨by rfl, ?_⟩) ?_ ?_
                                        rotate_left
                                        · intro w'
                                          go_simp
                                          with_reducible rfl
                                        rotate_left
                                        · simp only [Act.put, List.setIfInBounds_toArray, List.set_cons_zero, List.set_cons_succ, i64_w, i32_w]
                                          rfl
                                        refine take_ (i := 6) (N := some 104) (v := ?_) (a' := ?_) #[true, true, true, true, true, true, true, false, true, true, true, true, false, false, false, false, false, false, false, false, false, false, false, false, false, false, false, false, false, false] rfl rfl (take_ofW HT_.out HW_.out (by kernel_rfl)) (fun _ _ _ h => h) (Or.inl ⟨by rfl, ?_⟩) hHeld ?_ ?_
                                        rotate_left
                                        · rintro w' ⟨s0, s1⟩
                                          go_simp
                                          with_reducible rfl
                                        rotate_left
                                        · simp only [Act.put, List.setIfInBounds_toArray, List.set_cons_zero, List.set_cons_succ, i64_w, i32_w]
                                          rfl
                                        refine one_ (i := 7) (N := some 105) #[true, true, true, true, true, true, true, true, true, true, true, true, false, false, false, false, false, false, false, false, false, false, false, false, false, false, false, false, false, false] rfl rfl (one_of HT_.out (by kernel_rfl)) (by decide) (fun K hK => ?_)
                                        refine goes_ Try.func20 (by kernel_rfl) rfl #[.int .i64 t516, .slice Ao13 t517.length co13, .int .i64 (Int.tmod (wrap64 (a2)) t516), .int .i64 (rd t529 x18_3)] (by rfl) rfl rfl (by (try simp only [List.map_toArray, List.map_cons, List.map_nil]); first | done | rfl | (simp only [List.length_drop, List.length_take]; rfl)) ?_
                                        with_reducible refine (graph_Path.calls kj43 t516 _ _ t517 (Int.tmod (wrap64 (a2)) t516) (rd t529 x18_3) t535 _ ?side1 ?side2 A51.out).mono ?_
                                        (case side1 => repeat (first | exact (Kd.R_reads' HO_11.out).2.2 | (with_reducible refine Kd.C_alloc ?_ _) | (with_reducible refine Kd.C_drewN ?_ _) | (with_reducible refine Kd.C_drew ?_)))
                                        (case side2 => exact (Kd.R_reads' HO_11.out).2.1)
                                        rintro e w67 ⟨v536, rfl, ho0, hb⟩
                                        have HS0_ := (hb.cell (World.block_lt_of_cell? _ _ (hHeld.1))).trans (hHeld.1)
                                        have HS1_ := (hb.cell (World.block_lt_of_cell? _ _ (hHeld.2))).trans (hHeld.2)
                                        refine ⟨_, rfl, ?_⟩
                                        have n0_ := Aside0.mk (Kd.R_below (by (with_reducible repeat (first | apply Kd.R_alloc | apply Kd.R_drewN | apply Kd.R_drew)); exact HO_11.out) hb)
                                        have n1_ := Aside0.mk (Kd.R_elder' (by (with_reducible repeat (first | apply Kd.R_alloc | apply Kd.R_drewN | apply Kd.R_drew)); exact HO_17.out) (Kd.R_base ho0) hb)
                                        have n2_ := Aside0.mk (Kd.R_lower (Kd.R_new' ho0 (Kd.R_lt (by (with_reducible repeat (first | apply Kd.R_alloc | apply Kd.R_drewN | apply Kd.R_drew)); exact HO_17.out))) (below_size (by repeat (first | (with_reducible first | exact HB.out | apply below_alloc | apply pw_below_drewN | apply below_drew1) | exact HB.out))))
                                        have n3_ := Aside0.mk (Kd.C_below (by repeat (first | (with_reducible exact HR541.out) | (with_reducible refine Kd.C_alloc ?_ _) | (with_reducible refine Kd.C_drewN ?_ _) | (with_reducible refine Kd.C_drew ?_) | exact HR541.out)) hb)
                                        have n4_ := Aside0.mk (below_step (by repeat (first | (with_reducible first | exact HB.out | apply below_alloc | apply pw_below_drewN | apply below_drew1) | exact HB.out)) hb)
                                        clear HO_11
                                        clear HO_17
                                        clear HR541
                                        clear HB
                                        have HO_11 := n0_
                                        have HO_17 := n1_
                                        have HO537 := n2_
                                        have HR541 := n3_
                                        have HB := n4_
                                        clear n0_ n1_ n2_ n3_ n4_
                                        (try clear hb)
                                        (try clear hb2)
                                        (try clear hk)
                                        (try clear hi)
                                        (try clear ho0)
                                        obtain ⟨Ao68, co68, eo68⟩ := Kd.R_slice HO537.out
                                        (first | subst eo68 | (injection eo68 with f1_ f2_ f3_; have f4_ := f1_.symm; have f5_ := f3_.symm; clear f1_ f2_ f3_; subst f4_; subst f5_))
                                        refine hK.out _ _ ⟨HS0_, HS1_⟩ (fun hHeld => ?_)
                                        clear hK K
                                        refine norm_ (a' := ?_) ?_ ?_
                                        rotate_left
                                        · show Act.put _ (some 105) _ = _
                                          simp only [Act.put, List.setIfInBounds_toArray, List.set_cons_zero, List.set_cons_succ, i64_w, i32_w]
                                          rfl
                                        refine one_ (i := 12) (N := some 110) #[true, true, true, true, true, true, true, true, true, true, true, true, true, false, false, false, false, false, false, false, false, false, false, false, false, false, false, false, false, false] rfl rfl (one_of HT_.out (by kernel_rfl)) (by decide) (fun K hK => ?_)
                                        refine goes_ Try.func19 (by kernel_rfl) rfl #[.slice Ao68 t535.length co68, .slice (some ad534) y538.length co45] (by rfl) rfl rfl (by (try simp only [List.map_toArray, List.map_cons, List.map_nil]); first | done | rfl | (simp only [List.length_drop, List.length_take]; rfl)) ?_
                                        with_reducible refine (lambrequinref10_Ints.calls kj43 _ _ t535 _ _ y538 true _ ?side1 ?side2 ?side3 ?side4 A55.out).mono ?_
                                        (case side1 => repeat (first | exact (Kd.R_reads' HO537.out).2.2 | (with_reducible refine Kd.C_alloc ?_ _) | (with_reducible refine Kd.C_drewN ?_ _) | (with_reducible refine Kd.C_drew ?_)))
                                        (case side2 => exact (Kd.R_reads' HO537.out).2.1)
                                        (case side3 => repeat (first | exact (by repeat (first | (with_reducible exact HR541.out) | (with_reducible refine Kd.C_alloc ?_ _) | (with_reducible refine Kd.C_drewN ?_ _) | (with_reducible refine Kd.C_drew ?_) | exact HR541.out)) | (with_reducible refine Kd.C_alloc ?_ _) | (with_reducible refine Kd.C_drewN ?_ _) | (with_reducible refine Kd.C_drew ?_)))
                                        (case side4 => exact HC541.out)
                                        rintro e w' ⟨rfl, ⟨nd, rfl⟩⟩
                                        refine ⟨_, rfl, ?_⟩
                                        refine hK.out _ _ ⟨hHeld.1, hHeld.2⟩ (fun hHeld => ?_)
                                        clear hK K
                                        refine norm_ (a' := ?_) ?_ ?_
                                        rotate_left
                                        · show Act.put _ (some 110) _ = _
                                          simp only [Act.put, List.setIfInBounds_toArray, List.set_cons_zero, List.set_cons_succ, i64_w, i32_w]
                                          rfl
                                        refine pure_ (i := 13) (N := some 111) (v := ?_) (a' := ?_) #[true, true, true, true, true, true, true, true, true, true, true, true, true, true, false, false, false, false, false, false, false, false, false, false, false, false, false, false, false, false] rfl rfl (any_of HT_.out (by kernel_rfl)) (fun _ _ _ h => h) (Or.inl ⟨by rfl, ?_⟩) ?_ ?_
                                        rotate_left
                                        · intro w'
                                          go_simp
                                          with_reducible rfl
                                        rotate_left
                                        · simp only [Act.put, List.setIfInBounds_toArray, List.set_cons_zero, List.set_cons_succ, i64_w, i32_w]
                                          rfl
                                        refine pure_ (i := 14) (N := some 112) (v := ?_) (a' := ?_) #[true, true, true, true, true, true, true, true, true, true, true, true, true, true, true, false, false, false, false, false, false, false, false, false, false, false, false, false, false, false] rfl rfl (any_of HT_.out (by kernel_rfl)) (fun _ _ _ h => h) (Or.inl ⟨by rfl, ?_⟩) ?_ ?_
                                        rotate_left
                                        · intro w'
                                          go_simp
                                          with_reducible rfl
                                        rotate_left
                                        · simp only [Act.put, List.setIfInBounds_toArray, List.set_cons_zero, List.set_cons_succ, i64_w, i32_w]
                                          rfl
                                        refine pure_ (i := 15) (N := some 113) (v := ?_) (a' := ?_) #[true, true, true, true, true, true, true, true, true, true, true, true, true, true, true, true, false, false, false, false, false, false, false, false, false, false, false, false, false, false] rfl rfl (any_of HT_.out (by kernel_rfl)) (fun _ _ _ h => h) (Or.inl ⟨by rfl, ?_⟩) ?_ ?_
                                        rotate_left
                                        · intro w'
                                          go_simp
                                          with_reducible rfl
                                        rotate_left
                                        · simp only [Act.put, List.setIfInBounds_toArray, List.set_cons_zero, List.set_cons_succ, i64_w, i32_w]
                                          rfl
                                        refine pure_ (i := 16) (N := some 114) (v := ?_) (a' := ?_) #[true, true, true, true, true, true, true, true, true, true, true, true, true, true, true, true, true, false, false, false, false, false, false, false, false, false, false, false, false, false] rfl rfl (any_of HT_.out (by kernel_rfl)) (fun _ _ _ h => h) (Or.inl ⟨by rfl, ?_⟩) ?_ ?_
                                        rotate_left
                                        · intro w'
                                          go_simp
                                          with_reducible rfl
                                        rotate_left
                                        · simp only [Act.put, List.setIfInBounds_toArray, List.set_cons_zero, List.set_cons_succ, i64_w, i32_w]
                                          rfl
                                        refine pure_ (i := 17) (N := some 115) (v := ?_) (a' := ?_) #[true, true, true, true, true, true, true, true, true, true, true, true, true, true, true, true, true, true, false, false, false, false, false, false, false, false, false, false, false, false] rfl rfl (any_of HT_.out (by kernel_rfl)) (fun _ _ _ h => h) (Or.inl ⟨by rfl, ?_⟩) ?_ ?_
                                        rotate_left
                                        · intro w'
                                          go_simp
                                          with_reducible rfl
                                        rotate_left
                                        · simp only [Act.put, List.setIfInBounds_toArray, List.set_cons_zero, List.set_cons_succ, i64_w, i32_w]
                                          rfl
                                        refine pure_ (i := 18) (N := some 116) (v := ?_) (a' := ?_) #[true, true, true, true, true, true, true, true, true, true, true, true, true, true, true, true, true, true, true, false, false, false, false, false, false, false, false, false, false, false] rfl rfl (any_of HT_.out (by kernel_rfl)) (fun _ _ _ h => h) (Or.inl ⟨by rfl, ?_⟩) ?_ ?_
                                        rotate_left
                                        · intro w'
                                          go_simp
                                          with_reducible rfl
                                        rotate_left
                                        · simp only [Act.put, List.setIfInBounds_toArray, List.set_cons_zero, List.set_cons_succ, i64_w, i32_w]
                                          rfl
                                        refine pure_ (i := 19) (N := some 117) (v := ?_) (a' := ?_) #[true, true, true, true, true, true, true, true, true, true, true, true, true, true, true, true, true, true, true, true, false, false, false, false, false, false, false, false, false, false] rfl rfl (any_of HT_.out (by kernel_rfl)) (fun _ _ _ h => h) (Or.inl ⟨by rfl, ?_⟩) ?_ ?_
                                        rotate_left
                                        · intro w'
                                          go_simp
                                          with_reducible rfl
                                        rotate_left
                                        · simp only [Act.put, List.setIfInBounds_toArray, List.set_cons_zero, List.set_cons_succ, i64_w, i32_w]
                                          rfl
                                        refine pure_ (i := 21) (N := some 119) (v := ?_) (a' := ?_) #[true, true, true, true, true, true, true, true, true, true, true, true, true, true, true, true, true, true, true, true, false, true, false, false, false, false, false, false, false, false] rfl rfl (any_of HT_.out (by kernel_rfl)) (fun _ _ _ h => h) (Or.inl ⟨by rfl, ?_⟩) ?_ ?_
                                        rotate_left
                                        · intro w'
                                          go_simp
                                          with_reducible rfl
                                        rotate_left
                                        · simp only [Act.put, List.setIfInBounds_toArray, List.set_cons_zero, List.set_cons_succ, i64_w, i32_w]
                                          rfl
                                        refine pure_ (i := 24) (N := some 122) (v := ?_) (a' := ?_) #[true, true, true, true, true, true, true, true, true, true, true, true, true, true, true, true, true, true, true, true, false, true, false, false, true, false, false, false, false, false] rfl rfl (any_of HT_.out (by kernel_rfl)) (fun _ _ _ h => h) (Or.inl ⟨by rfl, ?_⟩) ?_ ?_
                                        rotate_left
                                        · intro w'
                                          go_simp
                                          with_reducible rfl
                                        rotate_left
                                        · simp only [Act.put, List.setIfInBounds_toArray, List.set_cons_zero, List.set_cons_succ, i64_w, i32_w]
                                          rfl
                                        refine pure_ (i := 25) (N := some 123) (v := ?_) (a' := ?_) #[true, true, true, true, true, true, true, true, true, true, true, true, true, true, true, true, true, true, true, true, false, true, false, false, true, true, false, false, false, false] rfl rfl (any_of HT_.out (by kernel_rfl)) (fun _ _ _ h => h) (Or.inl ⟨by rfl, ?_⟩) ?_ ?_
                                        rotate_left
                                        · intro w'
                                          go_simp
                                          with_reducible rfl
                                        rotate_left
                                        · simp only [Act.put, List.setIfInBounds_toArray, List.set_cons_zero, List.set_cons_succ, i64_w, i32_w]
                                          rfl
                                        refine pure_ (i := 26) (N := some 124) (v := ?_) (a' := ?_) #[true, true, true, true, true, true, true, true, true, true, true, true, true, true, true, true, true, true, true, true, false, true, false, false, true, true, true, false, false, false] rfl rfl (any_of HT_.out (by kernel_rfl)) (fun _ _ _ h => h) (Or.inl ⟨by rfl, ?_⟩) ?_ ?_
                                        rotate_left
                                        · intro w'
                                          go_simp
                                          with_reducible rfl
                                        rotate_left
                                        · simp only [Act.put, List.setIfInBounds_toArray, List.set_cons_zero, List.set_cons_succ, i64_w, i32_w]
                                          rfl
                                        refine pure_ (i := 27) (N := some 125) (v := ?_) (a' := ?_) #[true, true, true, true, true, true, true, true, true, true, true, true, true, true, true, true, true, true, true, true, false, true, false, false, true, true, true, true, false, false] rfl rfl (any_of HT_.out (by kernel_rfl)) (fun _ _ _ h => h) (Or.inl ⟨by rfl, ?_⟩) ?_ ?_
                                        rotate_left
                                        · intro w'
                                          go_simp
                                          with_reducible rfl
                                        rotate_left
                                        · simp only [Act.put, List.setIfInBounds_toArray, List.set_cons_zero, List.set_cons_succ, i64_w, i32_w]
                                          rfl
                                        refine take_ (i := 20) (N := some 118) (v := ?_) (a' := ?_) #[true, true, true, true, true, true, true, true, true, true, true, true, true, true, true, true, true, true, true, true, true, true, false, false, true, true, true, true, false, false] rfl rfl (take_ofW HT_.out HW_.out (by kernel_rfl)) (fun _ _ _ h => h) (Or.inl ⟨by rfl, ?_⟩) hHeld ?_ ?_
                                        rotate_left
                                        · rintro w' ⟨s0, s1⟩
                                          go_simp
                                          with_reducible rfl
                                        rotate_left
                                        · simp only [Act.put, List.setIfInBounds_toArray, List.set_cons_zero, List.set_cons_succ, i64_w, i32_w]
                                          rfl
                                        refine one_ (i := 22) (N := some 120) #[true, true, true, true, true, true, true, true, true, true, true, true, true, true, true, true, true, true, true, true, true, true, true, false, true, true, true, true, false, false] rfl rfl (one_of HT_.out (by kernel_rfl)) (by decide) (fun K hK => ?_)
                                        refine goes_ Try.func20 (by kernel_rfl) rfl #[.int .i64 t516, .slice Ao13 t517.length co13, .int .i64 (rd t529 x18_3), .int .i64 (Int.tmod (wrap64 (a3)) t516)] (by rfl) rfl rfl (by (try simp only [List.map_toArray, List.map_cons, List.map_nil]); first | done | rfl | (simp only [List.length_drop, List.length_take]; rfl)) ?_
                                        with_reducible refine (graph_Path.calls kj43 t516 _ _ t517 (rd t529 x18_3) (Int.tmod (wrap64 (a3)) t516) t544 _ ?side1 ?side2 A57.out).mono ?_
                                        (case side1 => repeat (first | exact (Kd.R_reads' HO_11.out).2.2 | (with_reducible refine Kd.C_alloc ?_ _) | (with_reducible refine Kd.C_drewN ?_ _) | (with_reducible refine Kd.C_drew ?_)))
                                        (case side2 => exact (Kd.R_reads' HO_11.out).2.1)
                                        rintro e w69 ⟨v545, rfl, ho0, hb⟩
                                        have HS0_ := (hb.cell (World.block_lt_of_cell? _ _ (hHeld.1))).trans (hHeld.1)
                                        have HS1_ := (hb.cell (World.block_lt_of_cell? _ _ (hHeld.2))).trans (hHeld.2)
                                        refine ⟨_, rfl, ?_⟩
                                        have n0_ := Aside0.mk (Kd.R_below (by (with_reducible repeat (first | apply Kd.R_alloc | apply Kd.R_drewN | apply Kd.R_drew)); exact HO_11.out) hb)
                                        have n1_ := Aside0.mk (Kd.R_elder' (by (with_reducible repeat (first | apply Kd.R_alloc | apply Kd.R_drewN | apply Kd.R_drew)); exact HO_17.out) (Kd.R_base ho0) hb)
                                        have n2_ := Aside0.mk (Kd.R_elder' (by (with_reducible repeat (first | apply Kd.R_alloc | apply Kd.R_drewN | apply Kd.R_drew)); exact HO537.out) (Kd.R_base ho0) hb)
                                        have n3_ := Aside0.mk (Kd.R_lower (Kd.R_new' (Kd.R_new' ho0 (Kd.R_lt (by (with_reducible repeat (first | apply Kd.R_alloc | apply Kd.R_drewN | apply Kd.R_drew)); exact HO_17.out))) (Kd.R_lt (by (with_reducible repeat (first | apply Kd.R_alloc | apply Kd.R_drewN | apply Kd.R_drew)); exact HO537.out))) (below_size (by repeat (first | (with_reducible first | exact HB.out | apply below_alloc | apply pw_below_drewN | apply below_drew1) | exact HB.out))))
                                        have n4_ := Aside0.mk (Kd.C_below (by repeat (first | (with_reducible exact HR541.out) | (with_reducible refine Kd.C_alloc ?_ _) | (with_reducible refine Kd.C_drewN ?_ _) | (with_reducible refine Kd.C_drew ?_) | exact HR541.out)) hb)
                                        have n5_ := Aside0.mk (below_step (by repeat (first | (with_reducible first | exact HB.out | apply below_alloc | apply pw_below_drewN | apply below_drew1) | exact HB.out)) hb)
                                        clear HO_11
                                        clear HO_17
                                        clear HO537
                                        clear HR541
                                        clear HB
                                        have HO_11 := n0_
                                        have HO_17 := n1_
                                        have HO537 := n2_
                                        have HO546 := n3_
                                        have HR541 := n4_
                                        have HB := n5_
                                        clear n0_ n1_ n2_ n3_ n4_ n5_
                                        (try clear hb)
                                        (try clear hb2)
                                        (try clear hk)
                                        (try clear hi)
                                        (try clear ho0)
                                        obtain ⟨Ao70, co70, eo70⟩ := Kd.R_slice HO546.out
                                        (first | subst eo70 | (injection eo70 with f1_ f2_ f3_; have f4_ := f1_.symm; have f5_ := f3_.symm; clear f1_ f2_ f3_; subst f4_; subst f5_))
                                        refine hK.out _ _ ⟨HS0_, HS1_⟩ (fun hHeld => ?_)
                                        clear hK K
                                        refine norm_ (a' := ?_) ?_ ?_
                                        rotate_left
                                        · show Act.put _ (some 120) _ = _
                                          simp only [Act.put, List.setIfInBounds_toArray, List.set_cons_zero, List.set_cons_succ, i64_w, i32_w]
                                          rfl
                                        refine pure_ (i := 23) (N := some 121) (v := ?_) (a' := ?_) #[true, true, true, true, true, true, true, true, true, true, true, true, true, true, true, true, true, true, true, true, true, true, true, true, true, true, true, true, false, false] rfl rfl (any_of HT_.out (by kernel_rfl)) (fun _ _ _ h => h) (Or.inl ⟨by rfl, ?_⟩) ?_ ?_
                                        rotate_left
                                        · intro w'
                                          go_simp
                                          with_reducible rfl
                                        rotate_left
                                        · simp only [Act.put, List.setIfInBounds_toArray, List.set_cons_zero, List.set_cons_succ, i64_w, i32_w]
                                          rfl
                                        refine pure_ (i := 28) (N := some 126) (v := ?_) (a' := ?_) #[true, true, true, true, true, true, true, true, true, true, true, true, true, true, true, true, true, true, true, true, true, true, true, true, true, true, true, true, true, false] rfl rfl (any_of HT_.out (by kernel_rfl)) (fun _ _ _ h => h) (Or.inl ⟨by rfl, ?_⟩) ?_ ?_
                                        rotate_left
                                        · intro w'
                                          go_simp
                                          with_reducible rfl
                                        rotate_left
                                        · simp only [Act.put, List.setIfInBounds_toArray, List.set_cons_zero, List.set_cons_succ, i64_w, i32_w]
                                          rfl
                                        refine pure_ (i := 29) (N := some 127) (v := ?_) (a' := ?_) #[true, true, true, true, true, true, true, true, true, true, true, true, true, true, true, true, true, true, true, true, true, true, true, true, true, true, true, true, true, true] rfl rfl (any_of HT_.out (by kernel_rfl)) (fun _ _ _ h => h) (Or.inl ⟨by rfl, ?_⟩) ?_ ?_
                                        rotate_left
                                        · intro w'
                                          go_simp
                                          with_reducible rfl
                                        rotate_left
                                        · simp only [Act.put, List.setIfInBounds_toArray, List.set_cons_zero, List.set_cons_succ, i64_w, i32_w]
                                          rfl
                                        refine done_ (done_of HT_.out (by kernel_rfl)) ?_
                                        try go_wp2
                                        go_ret
                                        exact ⟨by first | rfl | (simp [errW_none, errW_some] <;> rfl) | (simp only [← hji52]; first | rfl | (simp [errW_none, errW_some] <;> rfl)) | (simp [*, errW_none, errW_some] <;> rfl), by repeat (first | (with_reducible first | exact HB.out | apply below_alloc | apply pw_below_drewN | apply below_drew1) | exact HB.out)⟩
                                    · replace c56 := Bool.eq_false_iff.mpr c56
                                      subst c56
                                      have H1 : (some false) = some r := by rw [if_neg (show ¬ (false = true) by decide)] at H; exact H
                                      clear H
                                      have H := H1
                                      clear H1
                                      obtain rfl := Option.some.inj H
                                      try go_wp2
                                      have n0_ := Aside0.mk (Kd.R_drew HO_11.out)
                                      have n1_ := Aside0.mk (Kd.R_drew HO_17.out)
                                      have n2_ := Aside0.mk (below_drew1 HB.out)
                                      clear HO_11
                                      clear HO_17
                                      clear HB
                                      have HO_11 := n0_
                                      have HO_17 := n1_
                                      have HB := n2_
                                      clear n0_ n1_ n2_
                                      have p534 : 0 ≤ (x18_3 : Int) := of_decide_eq_true (by first | (with_reducible assumption) | assumption)
                                      have q534 : x18_3 < (t529.length : Int) := of_decide_eq_true (by first | (with_reducible assumption) | assumption)
                                      obtain ⟨ad534, e534, hx534_0⟩ := Kd.at_int (Kd.R_reads' HO_17.out).2.2 x18_3 p534 q534
                                      cases e534
                                      replace p534 := eq_true p534
                                      replace q534 := eq_true q534
                                      have q72 : ((ji52) : Int) ≤ ((t529.length : Int) : Int) := of_decide_eq_true (by first | (with_reducible assumption) | assumption)
                                      obtain ⟨i072, hi072, _, hsz72, _⟩ := info_parts info3
                                      have hroom72 : t529.length ≤ co45 := (Kd.R_reads' HO_17.out).2.1
                                      have hC72 : Kd.C (Kd.int .i64) _ (some ad534) t529.length t529 := (Kd.R_reads' HO_17.out).2.2
                                      have hcut72 := cut_to (P := Try.prog) 35 3 .i64 Try.underlying35 hi072 (some ad534) t529.length co45 (ji52) (of_decide_eq_true (by first | (with_reducible assumption) | assumption)) q72 hroom72
                                      have hr72 := Kd.C_take (m := ((ji52) : Int).toNat) hC72 (by omega)
                                      have hy72 : y538.length = ((ji52) : Int).toNat := (by rw [Ny538.out, List.length_take]; omega)
                                      rw [← Ny538.out] at hr72
                                      rw [← hy72] at hcut72
                                      have HR541 := Aside0.mk hr72
                                      have HC541 := Aside0.mk (show y538.length ≤ co45 from by omega)
                                      clear hr72 hC72 hroom72 hi072 hsz72
                                      have KY72 := Aside0.mk hy72
                                      clear hy72
                                      have KL72 := Aside0.mk (show ((ji52) : Int).toNat ≤ t529.length from by omega)
                                      replace q72 := eq_true q72
                                      refine start_ (n := 30) (S := fun w' => w'.cell? (ad534.add (x18_3).toNat) = some (.int .i64 (rd t529 x18_3))) (ds := []) #[false, false, false, false, false, false, false, false, false, false, false, false, false, false, false, false, false, false, false, false, false, false, false, false, false, false, false, false, false, false] (by kernel_rfl) rfl rfl (hx534_0) (fun hHeld => ?_); refine with_tabW lambrequinlaw10_GraphThrough.tab20 lambrequinlaw10_GraphThrough.bits20 (fun HT_ HW_ => ?_)
                                      generalize wc.drew = w71 at HO_11 HO_17 HB HR541 hx534_0 hHeld ⊢
                                      refine pure_ (i := 0) (N := some 98) (v := ?_) (a' := ?_) #[true, false, false, false, false, false, false, false, false, false, false, false, false, false, false, false, false, false, false, false, false, false, false, false, false, false, false, false, false, false] rfl rfl (any_of HT_.out (by kernel_rfl)) (fun _ _ _ h => h) (Or.inl ⟨by rfl, ?_⟩) ?_ ?_
                                      rotate_left
                                      · intro w'
                                        go_simp
                                        with_reducible rfl
                                      rotate_left
                                      · simp only [Act.put, List.setIfInBounds_toArray, List.set_cons_zero, List.set_cons_succ, i64_w, i32_w]
                                        rfl
                                      refine pure_ (i := 1) (N := some 99) (v := ?_) (a' := ?_) #[true, true, false, false, false, false, false, false, false, false, false, false, false, false, false, false, false, false, false, false, false, false, false, false, false, false, false, false, false, false] rfl rfl (any_of HT_.out (by kernel_rfl)) (fun _ _ _ h => h) (Or.inl ⟨by rfl, ?_⟩) ?_ ?_
                                      rotate_left
                                      · intro w'
                                        go_simp
                                        with_reducible rfl
                                      rotate_left
                                      · simp only [Act.put, List.setIfInBounds_toArray, List.set_cons_zero, List.set_cons_succ, i64_w, i32_w]
                                        rfl
                                      refine pure_ (i := 2) (N := some 100) (v := ?_) (a' := ?_) #[true, true, true, false, false, false, false, false, false, false, false, false, false, false, false, false, false, false, false, false, false, false, false, false, false, false, false, false, false, false] rfl rfl (any_of HT_.out (by kernel_rfl)) (fun _ _ _ h => h) (Or.inl ⟨by rfl, ?_⟩) ?_ ?_
                                      rotate_left
                                      · intro w'
                                        go_simp
                                        with_reducible rfl
                                      rotate_left
                                      · simp only [Act.put, List.setIfInBounds_toArray, List.set_cons_zero, List.set_cons_succ, i64_w, i32_w]
                                        rfl
                                      refine pure_ (i := 3) (N := some 101) (v := ?_) (a' := ?_) #[true, true, true, true, false, false, false, false, false, false, false, false, false, false, false, false, false, false, false, false, false, false, false, false, false, false, false, false, false, false] rfl rfl (any_of HT_.out (by kernel_rfl)) (fun _ _ _ h => h) (Or.inl ⟨by rfl, ?_⟩) ?_ ?_
                                      rotate_left
                                      · intro w'
                                        go_simp
                                        with_reducible rfl
                                      rotate_left
                                      · simp only [Act.put, List.setIfInBounds_toArray, List.set_cons_zero, List.set_cons_succ, i64_w, i32_w]
                                        rfl
                                      refine pure_ (i := 4) (N := some 102) (v := ?_) (a' := ?_) #[true, true, true, true, true, false, false, false, false, false, false, false, false, false, false, false, false, false, false, false, false, false, false, false, false, false, false, false, false, false] rfl rfl (any_of HT_.out (by kernel_rfl)) (fun _ _ _ h => h) (Or.inl ⟨by rfl, ?_⟩) ?_ ?_
                                      rotate_left
                                      · intro w'
                                        go_simp
                                        with_reducible rfl
                                      rotate_left
                                      · simp only [Act.put, List.setIfInBounds_toArray, List.set_cons_zero, List.set_cons_succ, i64_w, i32_w]
                                        rfl
                                      refine pure_ (i := 5) (N := some 103) (v := ?_) (a' := ?_) #[true, true, true, true, true, true, false, false, false, false, false, false, false, false, false, false, false, false, false, false, false, false, false, false, false, false, false, false, false, false] rfl rfl (any_of HT_.out (by kernel_rfl)) (fun _ _ _ h => h) (Or.inl ⟨by rfl, ?_⟩) ?_ ?_
                                      rotate_left
                                      · intro w'
                                        go_simp
                                        with_reducible rfl
                                      rotate_left
                                      · simp only [Act.put, List.setIfInBounds_toArray, List.set_cons_zero, List.set_cons_succ, i64_w, i32_w]
                                        rfl
                                      refine pure_ (i := 8) (N := some 106) (v := ?_) (a' := ?_) #[true, true, true, true, true, true, false, false, true, false, false, false, false, false, false, false, false, false, false, false, false, false, false, false, false, false, false, false, false, false] rfl rfl (any_of HT_.out (by kernel_rfl)) (fun _ _ _ h => h) (Or.inl ⟨by rfl, ?_⟩) ?_ ?_
                                      rotate_left
                                      · intro w'
                                        go_simp
                                        with_reducible rfl
                                      rotate_left
                                      · simp only [Act.put, List.setIfInBounds_toArray, List.set_cons_zero, List.set_cons_succ, i64_w, i32_w]
                                        rfl
                                      refine pure_ (i := 9) (N := some 107) (v := ?_) (a' := ?_) #[true, true, true, true, true, true, false, false, true, true, false, false, false, false, false, false, false, false, false, false, false, false, false, false, false, false, false, false, false, false] rfl rfl (any_of HT_.out (by kernel_rfl)) (fun _ _ _ h => h) (Or.inl ⟨by rfl, ?_⟩) ?_ ?_
                                      rotate_left
                                      · intro w'
                                        go_simp
                                        with_reducible rfl
                                      rotate_left
                                      · simp only [Act.put, List.setIfInBounds_toArray, List.set_cons_zero, List.set_cons_succ, i64_w, i32_w]
                                        rfl
                                      refine pure_ (i := 10) (N := some 108) (v := ?_) (a' := ?_) #[true, true, true, true, true, true, false, false, true, true, true, false, false, false, false, false, false, false, false, false, false, false, false, false, false, false, false, false, false, false] rfl rfl (any_of HT_.out (by kernel_rfl)) (fun _ _ _ h => h) (Or.inl ⟨by rfl, ?_⟩) ?_ ?_
                                      rotate_left
                                      · intro w'
                                        go_simp
                                        with_reducible rfl
                                      rotate_left
                                      · simp only [Act.put, List.setIfInBounds_toArray, List.set_cons_zero, List.set_cons_succ, i64_w, i32_w]
                                        rfl
                                      refine pure_ (i := 11) (N := some 109) (v := ?_) (a' := ?_) #[true, true, true, true, true, true, false, false, true, true, true, true, false, false, false, false, false, false, false, false, false, false, false, false, false, false, false, false, false, false] rfl rfl (any_of HT_.out (by kernel_rfl)) (fun _ _ _ h => h) (Or.inl ⟨by rfl, ?_⟩) ?_ ?_
                                      rotate_left
                                      · intro w'
                                        go_simp
                                        with_reducible rfl
                                      rotate_left
                                      · simp only [Act.put, List.setIfInBounds_toArray, List.set_cons_zero, List.set_cons_succ, i64_w, i32_w]
                                        rfl
                                      refine take_ (i := 6) (N := some 104) (v := ?_) (a' := ?_) #[true, true, true, true, true, true, true, false, true, true, true, true, false, false, false, false, false, false, false, false, false, false, false, false, false, false, false, false, false, false] rfl rfl (take_ofW HT_.out HW_.out (by kernel_rfl)) (fun _ _ _ h => h) (Or.inl ⟨by rfl, ?_⟩) hHeld ?_ ?_
                                      rotate_left
                                      · intro w' s0
                                        go_simp
                                        with_reducible rfl
                                      rotate_left
                                      · simp only [Act.put, List.setIfInBounds_toArray, List.set_cons_zero, List.set_cons_succ, i64_w, i32_w]
                                        rfl
                                      refine one_ (i := 7) (N := some 105) #[true, true, true, true, true, true, true, true, true, true, true, true, false, false, false, false, false, false, false, false, false, false, false, false, false, false, false, false, false, false] rfl rfl (one_of HT_.out (by kernel_rfl)) (by decide) (fun K hK => ?_)
                                      refine goes_ Try.func20 (by kernel_rfl) rfl #[.int .i64 t516, .slice Ao13 t517.length co13, .int .i64 (Int.tmod (wrap64 (a2)) t516), .int .i64 (rd t529 x18_3)] (by rfl) rfl rfl (by (try simp only [List.map_toArray, List.map_cons, List.map_nil]); first | done | rfl | (simp only [List.length_drop, List.length_take]; rfl)) ?_
                                      with_reducible refine (graph_Path.calls kj43 t516 _ _ t517 (Int.tmod (wrap64 (a2)) t516) (rd t529 x18_3) t535 _ ?side1 ?side2 A51.out).mono ?_
                                      (case side1 => repeat (first | exact (Kd.R_reads' HO_11.out).2.2 | (with_reducible refine Kd.C_alloc ?_ _) | (with_reducible refine Kd.C_drewN ?_ _) | (with_reducible refine Kd.C_drew ?_)))
                                      (case side2 => exact (Kd.R_reads' HO_11.out).2.1)
                                      rintro e w73 ⟨v536, rfl, ho0, hb⟩
                                      have HS0_ := (hb.cell (World.block_lt_of_cell? _ _ (hHeld))).trans (hHeld)
                                      refine ⟨_, rfl, ?_⟩
                                      have n0_ := Aside0.mk (Kd.R_below (by (with_reducible repeat (first | apply Kd.R_alloc | apply Kd.R_drewN | apply Kd.R_drew)); exact HO_11.out) hb)
                                      have n1_ := Aside0.mk (Kd.R_elder' (by (with_reducible repeat (first | apply Kd.R_alloc | apply Kd.R_drewN | apply Kd.R_drew)); exact HO_17.out) (Kd.R_base ho0) hb)
                                      have n2_ := Aside0.mk (Kd.R_lower (Kd.R_new' ho0 (Kd.R_lt (by (with_reducible repeat (first | apply Kd.R_alloc | apply Kd.R_drewN | apply Kd.R_drew)); exact HO_17.out))) (below_size (by repeat (first | (with_reducible first | exact HB.out | apply below_alloc | apply pw_below_drewN | apply below_drew1) | exact HB.out))))
                                      have n3_ := Aside0.mk (Kd.C_below (by repeat (first | (with_reducible exact HR541.out) | (with_reducible refine Kd.C_alloc ?_ _) | (with_reducible refine Kd.C_drewN ?_ _) | (with_reducible refine Kd.C_drew ?_) | exact HR541.out)) hb)
                                      have n4_ := Aside0.mk (below_step (by repeat (first | (with_reducible first | exact HB.out | apply below_alloc | apply pw_below_drewN | apply below_drew1) | exact HB.out)) hb)
                                      clear HO_11
                                      clear HO_17
                                      clear HR541
                                      clear HB
                                      have HO_11 := n0_
                                      have HO_17 := n1_
                                      have HO537 := n2_
                                      have HR541 := n3_
                                      have HB := n4_
                                      clear n0_ n1_ n2_ n3_ n4_
                                      (try clear hb)
                                      (try clear hb2)
                                      (try clear hk)
                                      (try clear hi)
                                      (try clear ho0)
                                      obtain ⟨Ao74, co74, eo74⟩ := Kd.R_slice HO537.out
                                      (first | subst eo74 | (injection eo74 with f1_ f2_ f3_; have f4_ := f1_.symm; have f5_ := f3_.symm; clear f1_ f2_ f3_; subst f4_; subst f5_))
                                      refine hK.out _ _ (HS0_) (fun hHeld => ?_)
                                      clear hK K
                                      refine norm_ (a' := ?_) ?_ ?_
                                      rotate_left
                                      · show Act.put _ (some 105) _ = _
                                        simp only [Act.put, List.setIfInBounds_toArray, List.set_cons_zero, List.set_cons_succ, i64_w, i32_w]
                                        rfl
                                      refine one_ (i := 12) (N := some 110) #[true, true, true, true, true, true, true, true, true, true, true, true, true, false, false, false, false, false, false, false, false, false, false, false, false, false, false, false, false, false] rfl rfl (one_of HT_.out (by kernel_rfl)) (by decide) (fun K hK => ?_)
                                      refine goes_ Try.func19 (by kernel_rfl) rfl #[.slice Ao74 t535.length co74, .slice (some ad534) y538.length co45] (by rfl) rfl rfl (by (try simp only [List.map_toArray, List.map_cons, List.map_nil]); first | done | rfl | (simp only [List.length_drop, List.length_take]; rfl)) ?_
                                      with_reducible refine (lambrequinref10_Ints.calls kj43 _ _ t535 _ _ y538 false _ ?side1 ?side2 ?side3 ?side4 A55.out).mono ?_
                                      (case side1 => repeat (first | exact (Kd.R_reads' HO537.out).2.2 | (with_reducible refine Kd.C_alloc ?_ _) | (with_reducible refine Kd.C_drewN ?_ _) | (with_reducible refine Kd.C_drew ?_)))
                                      (case side2 => exact (Kd.R_reads' HO537.out).2.1)
                                      (case side3 => repeat (first | exact (by repeat (first | (with_reducible exact HR541.out) | (with_reducible refine Kd.C_alloc ?_ _) | (with_reducible refine Kd.C_drewN ?_ _) | (with_reducible refine Kd.C_drew ?_) | exact HR541.out)) | (with_reducible refine Kd.C_alloc ?_ _) | (with_reducible refine Kd.C_drewN ?_ _) | (with_reducible refine Kd.C_drew ?_)))
                                      (case side4 => exact HC541.out)
                                      rintro e w' ⟨rfl, ⟨nd, rfl⟩⟩
                                      refine ⟨_, rfl, ?_⟩
                                      refine hK.out _ _ (hHeld) (fun hHeld => ?_)
                                      clear hK K
                                      refine norm_ (a' := ?_) ?_ ?_
                                      rotate_left
                                      · show Act.put _ (some 110) _ = _
                                        simp only [Act.put, List.setIfInBounds_toArray, List.set_cons_zero, List.set_cons_succ, i64_w, i32_w]
                                        rfl
                                      refine pure_ (i := 13) (N := some 111) (v := ?_) (a' := ?_) #[true, true, true, true, true, true, true, true, true, true, true, true, true, true, false, false, false, false, false, false, false, false, false, false, false, false, false, false, false, false] rfl rfl (any_of HT_.out (by kernel_rfl)) (fun _ _ _ h => h) (Or.inl ⟨by rfl, ?_⟩) ?_ ?_
                                      rotate_left
                                      · intro w'
                                        go_simp
                                        with_reducible rfl
                                      rotate_left
                                      · simp only [Act.put, List.setIfInBounds_toArray, List.set_cons_zero, List.set_cons_succ, i64_w, i32_w]
                                        rfl
                                      refine pure_ (i := 14) (N := some 112) (v := ?_) (a' := ?_) #[true, true, true, true, true, true, true, true, true, true, true, true, true, true, true, false, false, false, false, false, false, false, false, false, false, false, false, false, false, false] rfl rfl (any_of HT_.out (by kernel_rfl)) (fun _ _ _ h => h) (Or.inl ⟨by rfl, ?_⟩) ?_ ?_
                                      rotate_left
                                      · intro w'
                                        go_simp
                                        with_reducible rfl
                                      rotate_left
                                      · simp only [Act.put, List.setIfInBounds_toArray, List.set_cons_zero, List.set_cons_succ, i64_w, i32_w]
                                        rfl
                                      refine pure_ (i := 15) (N := some 113) (v := undef) (a' := ?_) #[true, true, true, true, true, true, true, true, true, true, true, true, true, true, true, true, false, false, false, false, false, false, false, false, false, false, false, false, false, false] rfl rfl (any_of HT_.out (by kernel_rfl)) (fun _ _ _ h => h) (Or.inr ⟨by rfl, rfl⟩) ?_ ?_
                                      rotate_left
                                      · simp only [Act.put, List.setIfInBounds_toArray, List.set_cons_zero, List.set_cons_succ, i64_w, i32_w]
                                        rfl
                                      refine pure_ (i := 16) (N := some 114) (v := undef) (a' := ?_) #[true, true, true, true, true, true, true, true, true, true, true, true, true, true, true, true, true, false, false, false, false, false, false, false, false, false, false, false, false, false] rfl rfl (any_of HT_.out (by kernel_rfl)) (fun _ _ _ h => h) (Or.inr ⟨by rfl, rfl⟩) ?_ ?_
                                      rotate_left
                                      · simp only [Act.put, List.setIfInBounds_toArray, List.set_cons_zero, List.set_cons_succ, i64_w, i32_w]
                                        rfl
                                      refine pure_ (i := 17) (N := some 115) (v := undef) (a' := ?_) #[true, true, true, true, true, true, true, true, true, true, true, true, true, true, true, true, true, true, false, false, false, false, false, false, false, false, false, false, false, false] rfl rfl (any_of HT_.out (by kernel_rfl)) (fun _ _ _ h => h) (Or.inr ⟨by rfl, rfl⟩) ?_ ?_
                                      rotate_left
                                      · simp only [Act.put, List.setIfInBounds_toArray, List.set_cons_zero, List.set_cons_succ, i64_w, i32_w]
                                        rfl
                                      refine pure_ (i := 18) (N := some 116) (v := undef) (a' := ?_) #[true, true, true, true, true, true, true, true, true, true, true, true, true, true, true, true, true, true, true, false, false, false, false, false, false, false, false, false, false, false] rfl rfl (any_of HT_.out (by kernel_rfl)) (fun _ _ _ h => h) (Or.inr ⟨by rfl, rfl⟩) ?_ ?_
                                      rotate_left
                                      · simp only [Act.put, List.setIfInBounds_toArray, List.set_cons_zero, List.set_cons_succ, i64_w, i32_w]
                                        rfl
                                      refine pure_ (i := 19) (N := some 117) (v := undef) (a' := ?_) #[true, true, true, true, true, true, true, true, true, true, true, true, true, true, true, true, true, true, true, true, false, false, false, false, false, false, false, false, false, false] rfl rfl (any_of HT_.out (by kernel_rfl)) (fun _ _ _ h => h) (Or.inr ⟨by rfl, rfl⟩) ?_ ?_
                                      rotate_left
                                      · simp only [Act.put, List.setIfInBounds_toArray, List.set_cons_zero, List.set_cons_succ, i64_w, i32_w]
                                        rfl
                                      refine pure_ (i := 20) (N := some 118) (v := undef) (a' := ?_) #[true, true, true, true, true, true, true, true, true, true, true, true, true, true, true, true, true, true, true, true, true, false, false, false, false, false, false, false, false, false] rfl rfl (any_of HT_.out (by kernel_rfl)) (fun _ _ _ h => h) (Or.inr ⟨by rfl, rfl⟩) ?_ ?_
                                      rotate_left
                                      · simp only [Act.put, List.setIfInBounds_toArray, List.set_cons_zero, List.set_cons_succ, i64_w, i32_w]
                                        rfl
                                      refine pure_ (i := 21) (N := some 119) (v := undef) (a' := ?_) #[true, true, true, true, true, true, true, true, true, true, true, true, true, true, true, true, true, true, true, true, true, true, false, false, false, false, false, false, false, false] rfl rfl (any_of HT_.out (by kernel_rfl)) (fun _ _ _ h => h) (Or.inr ⟨by rfl, rfl⟩) ?_ ?_
                                      rotate_left
                                      · simp only [Act.put, List.setIfInBounds_toArray, List.set_cons_zero, List.set_cons_succ, i64_w, i32_w]
                                        rfl
                                      refine pure_ (i := 22) (N := some 120) (v := undef) (a' := ?_) #[true, true, true, true, true, true, true, true, true, true, true, true, true, true, true, true, true, true, true, true, true, true, true, false, false, false, false, false, false, false] rfl rfl (any_of HT_.out (by kernel_rfl)) (fun _ _ _ h => h) (Or.inr ⟨by rfl, rfl⟩) ?_ ?_
                                      rotate_left
                                      · simp only [Act.put, List.setIfInBounds_toArray, List.set_cons_zero, List.set_cons_succ, i64_w, i32_w]
                                        rfl
                                      refine pure_ (i := 23) (N := some 121) (v := undef) (a' := ?_) #[true, true, true, true, true, true, true, true, true, true, true, true, true, true, true, true, true, true, true, true, true, true, true, true, false, false, false, false, false, false] rfl rfl (any_of HT_.out (by kernel_rfl)) (fun _ _ _ h => h) (Or.inr ⟨by rfl, rfl⟩) ?_ ?_
                                      rotate_left
                                      · simp only [Act.put, List.setIfInBounds_toArray, List.set_cons_zero, List.set_cons_succ, i64_w, i32_w]
                                        rfl
                                      refine pure_ (i := 24) (N := some 122) (v := undef) (a' := ?_) #[true, true, true, true, true, true, true, true, true, true, true, true, true, true, true, true, true, true, true, true, true, true, true, true, true, false, false, false, false, false] rfl rfl (any_of HT_.out (by kernel_rfl)) (fun _ _ _ h => h) (Or.inr ⟨by rfl, rfl⟩) ?_ ?_
                                      rotate_left
                                      · simp only [Act.put, List.setIfInBounds_toArray, List.set_cons_zero, List.set_cons_succ, i64_w, i32_w]
                                        rfl
                                      refine pure_ (i := 25) (N := some 123) (v := undef) (a' := ?_) #[true, true, true, true, true, true, true, true, true, true, true, true, true, true, true, true, true, true, true, true, true, true, true, true, true, true, false, false, false, false] rfl rfl (any_of HT_.out (by kernel_rfl)) (fun _ _ _ h => h) (Or.inr ⟨by rfl, rfl⟩) ?_ ?_
                                      rotate_left
                                      · simp only [Act.put, List.setIfInBounds_toArray, List.set_cons_zero, List.set_cons_succ, i64_w, i32_w]
                                        rfl
                                      refine pure_ (i := 26) (N := some 124) (v := undef) (a' := ?_) #[true, true, true, true, true, true, true, true, true, true, true, true, true, true, true, true, true, true, true, true, true, true, true, true, true, true, true, false, false, false] rfl rfl (any_of HT_.out (by kernel_rfl)) (fun _ _ _ h => h) (Or.inr ⟨by rfl, rfl⟩) ?_ ?_
                                      rotate_left
                                      · simp only [Act.put, List.setIfInBounds_toArray, List.set_cons_zero, List.set_cons_succ, i64_w, i32_w]
                                        rfl
                                      refine pure_ (i := 27) (N := some 125) (v := undef) (a' := ?_) #[true, true, true, true, true, true, true, true, true, true, true, true, true, true, true, true, true, true, true, true, true, true, true, true, true, true, true, true, false, false] rfl rfl (any_of HT_.out (by kernel_rfl)) (fun _ _ _ h => h) (Or.inr ⟨by rfl, rfl⟩) ?_ ?_
                                      rotate_left
                                      · simp only [Act.put, List.setIfInBounds_toArray, List.set_cons_zero, List.set_cons_succ, i64_w, i32_w]
                                        rfl
                                      refine pure_ (i := 28) (N := some 126) (v := undef) (a' := ?_) #[true, true, true, true, true, true, true, true, true, true, true, true, true, true, true, true, true, true, true, true, true, true, true, true, true, true, true, true, true, false] rfl rfl (any_of HT_.out (by kernel_rfl)) (fun _ _ _ h => h) (Or.inr ⟨by rfl, rfl⟩) ?_ ?_
                                      rotate_left
                                      · simp only [Act.put, List.setIfInBounds_toArray, List.set_cons_zero, List.set_cons_succ, i64_w, i32_w]
                                        rfl
                                      refine pure_ (i := 29) (N := some 127) (v := ?_) (a' := ?_) #[true, true, true, true, true, true, true, true, true, true, true, true, true, true, true, true, true, true, true, true, true, true, true, true, true, true, true, true, true, true] rfl rfl (any_of HT_.out (by kernel_rfl)) (fun _ _ _ h => h) (Or.inl ⟨by rfl, ?_⟩) ?_ ?_
                                      rotate_left
                                      · intro w'
                                        go_simp
                                        with_reducible rfl
                                      rotate_left
                                      · simp only [Act.put, List.setIfInBounds_toArray, List.set_cons_zero, List.set_cons_succ, i64_w, i32_w]
                                        rfl
                                      refine done_ (done_of HT_.out (by kernel_rfl)) ?_
                                      try go_wp2
                                      go_ret
                                      exact ⟨by first | rfl | (simp [errW_none, errW_some] <;> rfl) | (simp only [← hji52]; first | rfl | (simp [errW_none, errW_some] <;> rfl)) | (simp [*, errW_none, errW_some] <;> rfl), by repeat (first | (with_reducible first | exact HB.out | apply below_alloc | apply pw_below_drewN | apply below_drew1) | exact HB.out)⟩
                                  · rw [if_neg c54] at H
                                    exact absurd H (by simp)
                                · rw [if_neg c53] at H
                                  exact absurd H (by simp)
                              · rw [if_neg c50] at H
                                exact absurd H (by simp)
                            · rw [if_neg c49] at H
                              exact absurd H (by simp)
                    · rw [if_neg c43] at H
                      have c43b0 : decide (x18_3 < (t529.length : Int)) = false := decide_eq_false c43
                      clear c43
                      obtain rfl := Option.some.inj H
                      obtain ⟨Ao75, co75, eo75⟩ := Kd.R_slice HO_17.out
                      subst eo75
                      go_wp2
                      go_ret
                      exact ⟨by first | rfl | (simp [errW_none, errW_some] <;> rfl) | (simp [*, errW_none, errW_some] <;> rfl), by repeat (first | (with_reducible first | exact HB.out | apply below_alloc | apply pw_below_drewN | apply below_drew1) | exact HB.out)⟩

end Go.Proofs.Ytngmdccheaidkaa.Pr
