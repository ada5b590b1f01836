-- printed by this session's own turn of print (wip/tools/mkprint.py)
import Derived.Test.YtmacollhnnachaaF
import Derived.Test.YtmacollhnnachaaF15
import Derived.Test.YtmacollhnnachaaF16
import Derived.Test.YtmacollhnnachaaGRun
namespace Go.Proofs.Ytmacollhnnachaa.Pr
open Go.RowKit Go.Proofs.YtmacollhnnachaaW.PrintWords Go.Proofs.YtmacollhnnachaaW.PrintLast Go.Proofs.YtmacollhnnachaaW.PrintMore
attribute [local go_sem] max2_int min2_int max_two min_two max_three min_three max_four min_four   -- for this text's walks alone
set_option linter.unusedVariables false
set_option linter.unusedSimpArgs false

/-! ### lambrequinlaw22_InterpEnds: function 4 -/
mutual
def lambrequinlaw22_InterpEnds.j0 : Nat → Bool → List (S33) → Bool → List (S38) → List Int → List Bool → Int → Option (Bool)
  | 0, _, _, _, _, _, _, _ => none
  | k + 1, x3, x4, x30, x353000, x353001, x353002, x353003 => if x30 = true then (if x3 = true then (some ((x4.length : Int) == 0)) else (some false)) else (if (x4.length : Int) = 0 then (lambrequinlaw22_InterpEnds.j1 k x3 x4 true x353000 x353001 x353002 x353003) else (lambrequinlaw22_InterpEnds.j1 k x3 x4 ((x4.length : Int) == x353003) x353000 x353001 x353002 x353003))
def lambrequinlaw22_InterpEnds.j1 : Nat → Bool → List (S33) → Bool → List (S38) → List Int → List Bool → Int → Option (Bool)
  | 0, _, _, _, _, _, _, _ => none
  | k + 1, x3, x4, x46, x353000, x353001, x353002, x353003 => if x46 = true then (if x3 = true then (some (decide ((x4.length : Int) > 0))) else (some false)) else (if 0 ≤ (wrap64 ((x4.length : Int) - 1)) then (if (wrap64 ((x4.length : Int) - 1)) < (x4.length : Int) then (if ((rd_T33 x4 (wrap64 ((x4.length : Int) - 1))).f0) < 0 then (lambrequinlaw22_InterpEnds.j2 k x3 ((rd_T33 x4 (wrap64 ((x4.length : Int) - 1))).f0) true x353000 x353001 x353002 x353003) else (lambrequinlaw22_InterpEnds.j2 k x3 ((rd_T33 x4 (wrap64 ((x4.length : Int) - 1))).f0) (decide (((rd_T33 x4 (wrap64 ((x4.length : Int) - 1))).f0) ≥ (x353000.length : Int))) x353000 x353001 x353002 x353003)) else (none)) else (none))
def lambrequinlaw22_InterpEnds.j2 : Nat → Bool → Int → Bool → List (S38) → List Int → List Bool → Int → Option (Bool)
  | 0, _, _, _, _, _, _, _ => none
  | k + 1, x3, x5, x68, x353000, x353001, x353002, x353003 => if x68 = true then (some false) else (if 0 ≤ x5 then (if x5 < (x353000.length : Int) then (if ((rd_T38 x353000 x5).f0) = 7 then (if ((rd_T38 x353000 x5).f6) < 0 then (if x3 = true then (some true) else (some false)) else (if ((rd_T38 x353000 x5).f6) ≥ (x353000.length : Int) then (if x3 = true then (some true) else (some false)) else (if ((rd_T38 x353000 x5).f7) < 0 then (if x3 = true then (some true) else (some false)) else (if x3 = true then (if ((rd_T38 x353000 x5).f7) ≥ (x353000.length : Int) then (some true) else (some (((rd_T38 x353000 x5).f0) == 9))) else (some false))))) else (if ((rd_T38 x353000 x5).f0) = 8 then (if ((rd_T38 x353000 x5).f6) < 0 then (if x3 = true then (some true) else (some false)) else (if ((rd_T38 x353000 x5).f6) ≥ (x353000.length : Int) then (if x3 = true then (some true) else (some false)) else (if x3 = true then (some (((rd_T38 x353000 x5).f0) == 9)) else (some false)))) else (if x3 = true then (if x5 = (wrap64 ((x353000.length : Int) - 1)) then (some true) else (some (((rd_T38 x353000 x5).f0) == 9))) else (some false)))) else (none)) else (none))
end
def lambrequinlaw22_InterpEnds.f (k : Nat) (l0_0 : List (S38)) (l0_1 : List Int) (l0_2 : List Bool) (a0_3 : Int) : Option (Bool) := (lambrequinlaw22_shown.f).bind fun t353 => ((lambrequinlaw22_few.f l0_0 l0_1 l0_2 a0_3).bind fun t354 => (if t354 = true then ((interp_Run.f l0_0 l0_1 l0_2 a0_3).bind fun t355 => (if (l0_0.length : Int) = 0 then (lambrequinlaw22_InterpEnds.j0 k t353 t355 true l0_0 l0_1 l0_2 a0_3) else (lambrequinlaw22_InterpEnds.j0 k t353 t355 (decide (a0_3 ≤ 0)) l0_0 l0_1 l0_2 a0_3))) else (some t353)))
theorem lambrequinlaw22_InterpEnds.mono_l : ∀ k, (∀ y0 y1 y2 y3 y4 y5 y6, LeO (lambrequinlaw22_InterpEnds.j0 k y0 y1 y2 y3 y4 y5 y6) (lambrequinlaw22_InterpEnds.j0 (k + 1) y0 y1 y2 y3 y4 y5 y6)) ∧ (∀ y0 y1 y2 y3 y4 y5 y6, LeO (lambrequinlaw22_InterpEnds.j1 k y0 y1 y2 y3 y4 y5 y6) (lambrequinlaw22_InterpEnds.j1 (k + 1) y0 y1 y2 y3 y4 y5 y6)) ∧ (∀ y0 y1 y2 y3 y4 y5 y6, LeO (lambrequinlaw22_InterpEnds.j2 k y0 y1 y2 y3 y4 y5 y6) (lambrequinlaw22_InterpEnds.j2 (k + 1) y0 y1 y2 y3 y4 y5 y6))
  | 0 => ⟨fun _ _ _ _ _ _ _ r h => by simp [lambrequinlaw22_InterpEnds.j0] at h, fun _ _ _ _ _ _ _ r h => by simp [lambrequinlaw22_InterpEnds.j1] at h, fun _ _ _ _ _ _ _ r h => by simp [lambrequinlaw22_InterpEnds.j2] at h⟩
  | k + 1 => by
    obtain ⟨ih0, ih1, ih2⟩ := lambrequinlaw22_InterpEnds.mono_l k
    refine ⟨?_, ?_, ?_⟩
    · intro y0 y1 y2 y3 y4 y5 y6
      unfold lambrequinlaw22_InterpEnds.j0
      repeat' first
      | (with_reducible exact ih0 _ _ _ _ _ _ _)
      | (with_reducible exact ih1 _ _ _ _ _ _ _)
      | (with_reducible exact ih2 _ _ _ _ _ _ _)
      | (with_reducible exact LeO.refl _)
      | (with_reducible exact LeO.none _)
      | (with_reducible refine LeO.ite ?_ ?_)
      | (with_reducible refine LeO.bind ?_ (fun _ => ?_))
      | exact ih0 _ _ _ _ _ _ _
      | exact ih1 _ _ _ _ _ _ _
      | exact ih2 _ _ _ _ _ _ _
      | exact LeO.none _
      | refine LeO.ite ?_ ?_
      | refine LeO.bind ?_ (fun _ => ?_)
    · intro y0 y1 y2 y3 y4 y5 y6
      unfold lambrequinlaw22_InterpEnds.j1
      repeat' first
      | (with_reducible exact ih0 _ _ _ _ _ _ _)
      | (with_reducible exact ih1 _ _ _ _ _ _ _)
      | (with_reducible exact ih2 _ _ _ _ _ _ _)
      | (with_reducible exact LeO.refl _)
      | (with_reducible exact LeO.none _)
      | (with_reducible refine LeO.ite ?_ ?_)
      | (with_reducible refine LeO.bind ?_ (fun _ => ?_))
      | exact ih0 _ _ _ _ _ _ _
      | exact ih1 _ _ _ _ _ _ _
      | exact ih2 _ _ _ _ _ _ _
      | exact LeO.none _
      | refine LeO.ite ?_ ?_
      | refine LeO.bind ?_ (fun _ => ?_)
    · intro y0 y1 y2 y3 y4 y5 y6
      unfold lambrequinlaw22_InterpEnds.j2
      repeat' first
      | (with_reducible exact ih0 _ _ _ _ _ _ _)
      | (with_reducible exact ih1 _ _ _ _ _ _ _)
      | (with_reducible exact ih2 _ _ _ _ _ _ _)
      | (with_reducible exact LeO.refl _)
      | (with_reducible exact LeO.none _)
      | (with_reducible refine LeO.ite ?_ ?_)
      | (with_reducible refine LeO.bind ?_ (fun _ => ?_))
      | exact ih0 _ _ _ _ _ _ _
      | exact ih1 _ _ _ _ _ _ _
      | exact ih2 _ _ _ _ _ _ _
      | exact LeO.none _
      | refine LeO.ite ?_ ?_
      | refine LeO.bind ?_ (fun _ => ?_)
theorem lambrequinlaw22_InterpEnds.mono : ∀ a0 a1 a2 a3 k, LeO (lambrequinlaw22_InterpEnds.f k a0 a1 a2 a3) (lambrequinlaw22_InterpEnds.f (k + 1) a0 a1 a2 a3) := by
  intro a0 a1 a2 a3 k
  obtain ⟨ih0, ih1, ih2⟩ := lambrequinlaw22_InterpEnds.mono_l k
  unfold lambrequinlaw22_InterpEnds.f
  repeat' first
      | (with_reducible exact ih0 _ _ _ _ _ _ _)
      | (with_reducible exact ih1 _ _ _ _ _ _ _)
      | (with_reducible exact ih2 _ _ _ _ _ _ _)
      | (with_reducible exact LeO.refl _)
      | (with_reducible exact LeO.none _)
      | (with_reducible refine LeO.ite ?_ ?_)
      | (with_reducible refine LeO.bind ?_ (fun _ => ?_))
      | exact ih0 _ _ _ _ _ _ _
      | exact ih1 _ _ _ _ _ _ _
      | exact ih2 _ _ _ _ _ _ _
      | exact LeO.none _
      | refine LeO.ite ?_ ?_
      | refine LeO.bind ?_ (fun _ => ?_)
set_option maxHeartbeats 8000000 in
set_option maxRecDepth 100000 in
theorem lambrequinlaw22_InterpEnds.calls (k : Nat) (A0_0 : Option Addr) (c0_0 : Nat) (l0_0 : List (S38)) (A0_1 : Option Addr) (c0_1 : Nat) (l0_1 : List Int) (A0_2 : Option Addr) (c0_2 : Nat) (l0_2 : List Bool) (a0_3 : Int) (r : Bool) (w : World) (hr0_0 : Kd.C k38 w A0_0 l0_0.length l0_0) (hc0_0 : l0_0.length ≤ c0_0) (hr0_1 : Kd.C (Kd.int .i64) w A0_1 l0_1.length l0_1) (hc0_1 : l0_1.length ≤ c0_1) (hr0_2 : Kd.C Kd.bool w A0_2 l0_2.length l0_2) (hc0_2 : l0_2.length ≤ c0_2) (h : lambrequinlaw22_InterpEnds.f k l0_0 l0_1 l0_2 a0_3 = some r) :
    Calls Try.prog 4 #[.agg #[.slice A0_0 l0_0.length c0_0, .slice A0_1 l0_1.length c0_1, .slice A0_2 l0_2.length c0_2, .int .i64 a0_3]] w fun e w' => e = .returned (.bool r) ∧ Below w.heap.size w w' := by
  have hu26 := Try.underlying26
  have hu38 := Try.underlying38
  have HR0_0 := Aside0.mk hr0_0
  have HC0_0 := Aside0.mk hc0_0
  clear hr0_0 hc0_0
  have HR0_1 := Aside0.mk hr0_1
  have HC0_1 := Aside0.mk hc0_1
  clear hr0_1 hc0_1
  have HR0_2 := Aside0.mk hr0_2
  have HC0_2 := Aside0.mk hc0_2
  clear hr0_2 hc0_2
  have HB := Aside0.mk (Below.refl w.heap.size w)
  have H : ((lambrequinlaw22_shown.f).bind fun t353 => ((lambrequinlaw22_few.f l0_0 l0_1 l0_2 a0_3).bind fun t354 => (if t354 = true then ((interp_Run.f l0_0 l0_1 l0_2 a0_3).bind fun t355 => (if (l0_0.length : Int) = 0 then (lambrequinlaw22_InterpEnds.j0 k t353 t355 true l0_0 l0_1 l0_2 a0_3) else (lambrequinlaw22_InterpEnds.j0 k t353 t355 (decide (a0_3 ≤ 0)) l0_0 l0_1 l0_2 a0_3))) else (some t353)))) = some r := h
  clear h
  replace H := Option.bind_eq_some_iff.mp H
  obtain ⟨t353, A20, H⟩ := H
  replace H : ((lambrequinlaw22_few.f l0_0 l0_1 l0_2 a0_3).bind fun t354 => (if t354 = true then ((interp_Run.f l0_0 l0_1 l0_2 a0_3).bind fun t355 => (if (l0_0.length : Int) = 0 then (lambrequinlaw22_InterpEnds.j0 k t353 t355 true l0_0 l0_1 l0_2 a0_3) else (lambrequinlaw22_InterpEnds.j0 k t353 t355 (decide (a0_3 ≤ 0)) l0_0 l0_1 l0_2 a0_3))) else (some t353))) = some r := H
  have A2 := Aside0.mk A20
  clear A20
  replace H := Option.bind_eq_some_iff.mp H
  obtain ⟨t354, A30, H⟩ := H
  replace H : (if t354 = true then ((interp_Run.f l0_0 l0_1 l0_2 a0_3).bind fun t355 => (if (l0_0.length : Int) = 0 then (lambrequinlaw22_InterpEnds.j0 k t353 t355 true l0_0 l0_1 l0_2 a0_3) else (lambrequinlaw22_InterpEnds.j0 k t353 t355 (decide (a0_3 ≤ 0)) l0_0 l0_1 l0_2 a0_3))) else (some t353)) = some r := H
  have A3 := Aside0.mk A30
  clear A30
  by_cases c4 : t354 = true
  · subst c4
    have H1 : ((interp_Run.f l0_0 l0_1 l0_2 a0_3).bind fun t355 => (if (l0_0.length : Int) = 0 then (lambrequinlaw22_InterpEnds.j0 k t353 t355 true l0_0 l0_1 l0_2 a0_3) else (lambrequinlaw22_InterpEnds.j0 k t353 t355 (decide (a0_3 ≤ 0)) l0_0 l0_1 l0_2 a0_3))) = some r := by rw [if_pos rfl] at H; exact H
    clear H
    have H := H1
    clear H1
    replace H := Option.bind_eq_some_iff.mp H
    obtain ⟨t355, A50, H⟩ := H
    replace H : (if (l0_0.length : Int) = 0 then (lambrequinlaw22_InterpEnds.j0 k t353 t355 true l0_0 l0_1 l0_2 a0_3) else (lambrequinlaw22_InterpEnds.j0 k t353 t355 (decide (a0_3 ≤ 0)) l0_0 l0_1 l0_2 a0_3)) = some r := H
    have A5 := Aside0.mk A50
    clear A50
    have HC6 := Aside0.mk H
    clear H
    go_enter Try.func4, Try.ntmps4
    go_upto_region 5 with (first | ((with_reducible refine gate_dst (N := 1) rfl ?_); (try (refine gate_guard (by rfl) ?_; dsimp only)); refine box_event ?hg (N := 1) ?hd (cs := #[.slice A0_0 l0_0.length c0_0, .slice A0_1 l0_1.length c0_1, .slice A0_2 l0_2.length c0_2, .int .i64 a0_3]) (t := 26) ?hr ?_; (case hd => rfl); (case hg => rfl); (case hr => first | (go_simp; done) | (go_simp; rfl)); intro gb352 hg w7 hbox hb; have n0_ := Aside0.mk (below_step (by repeat (first | (with_reducible first | exact HB.out | apply below_alloc | apply pw_below_drewN | apply below_drew1) | exact HB.out)) hb); have n1_ := Aside0.mk (hbox); have n2_ := Aside0.mk ((by rw [hg]; exact (below_size (by repeat (first | (with_reducible first | exact HB.out | apply below_alloc | apply pw_below_drewN | apply below_drew1) | exact HB.out))) : w.heap.size ≤ gb352)); have n3_ := Aside0.mk ((by rw [hg]; exact (below_size (by repeat (first | (with_reducible first | exact HB.out | apply below_alloc | apply pw_below_drewN | apply below_drew1) | exact HB.out))) : w.heap.size ≤ gb352)); clear HB; have HB := n0_; have BK352 := n1_; have GW352 := n2_; have GE352 := n3_; clear n0_ n1_ n2_ n3_; clear hb hbox hg) | ((with_reducible refine gate_callee (f := 15) rfl ?_); refine goesL_ (some 8) rfl rfl Try.func15 (by kernel_rfl) rfl #[] rfl (by (try simp only [List.map_toArray, List.map_cons, List.map_nil]); first | done | rfl | (simp only [List.length_drop, List.length_take]; rfl)) ?_; (with_reducible refine (lambrequinlaw22_shown.calls  t353 _ A2.out).mono ?_); rintro e w8 ⟨rfl, hb⟩; refine ⟨_, rfl, ?_⟩; have n0_ := Aside0.mk (blk_below (g := gb352) (o := .cells #[.slice A0_0 l0_0.length c0_0, .slice A0_1 l0_1.length c0_1, .slice A0_2 l0_2.length c0_2, .int .i64 a0_3] 26 (0, 0)) (by (with_reducible repeat (first | refine blk_drewN ?_ _ | refine blk_drew ?_ | refine blk_alloc ?_ _)); exact BK352.out) hb); have n1_ := Aside0.mk (below_step (by repeat (first | (with_reducible first | exact HB.out | apply below_alloc | apply pw_below_drewN | apply below_drew1 | refine below_set ?_ GE352.out) | exact HB.out)) hb); clear BK352; clear HB; have BK352 := n0_; have HB := n1_; clear n0_ n1_; (try clear hb); (try clear hb2); (try clear hk); (try clear hi); have hcz9_0 : w8.cell? ⟨gb352, 0, none⟩ = some (.slice A0_0 l0_0.length c0_0) := (blk_cell BK352.out 0).trans rfl; have hcz9_1 : w8.cell? ⟨gb352, 1, none⟩ = some (.slice A0_1 l0_1.length c0_1) := (blk_cell BK352.out 1).trans rfl; have hcz9_2 : w8.cell? ⟨gb352, 2, none⟩ = some (.slice A0_2 l0_2.length c0_2) := (blk_cell BK352.out 2).trans rfl; have hcz9_3 : w8.cell? ⟨gb352, 3, none⟩ = some (.int .i64 a0_3) := (blk_cell BK352.out 3).trans rfl; have hfz9_0 := blk_frozen BK352.out 0; have hfz9_1 := blk_frozen BK352.out 1; have hfz9_2 := blk_frozen BK352.out 2; have hfz9_3 := blk_frozen BK352.out 3) | ((with_reducible refine gate_callee (f := 16) rfl ?_); refine goesL_ (some 10) rfl rfl Try.func16 (by kernel_rfl) rfl #[.agg #[.slice A0_0 l0_0.length c0_0, .slice A0_1 l0_1.length c0_1, .slice A0_2 l0_2.length c0_2, .int .i64 a0_3]] rfl (by (try simp only [List.map_toArray, List.map_cons, List.map_nil]); first | done | rfl | (simp only [List.length_drop, List.length_take]; rfl)) ?_; (with_reducible refine (lambrequinlaw22_few.calls _ _ l0_0 _ _ l0_1 _ _ l0_2 a0_3 true _ ?side1 ?side2 ?side3 ?side4 ?side5 ?side6 A3.out).mono ?_); (case side1 => repeat (first | exact (Kd.C_below HR0_0.out HB.out) | (with_reducible refine Kd.C_alloc ?_ _) | (with_reducible refine Kd.C_drewN ?_ _) | (with_reducible refine Kd.C_drew ?_))); (case side2 => exact HC0_0.out); (case side3 => repeat (first | exact (Kd.C_below HR0_1.out HB.out) | (with_reducible refine Kd.C_alloc ?_ _) | (with_reducible refine Kd.C_drewN ?_ _) | (with_reducible refine Kd.C_drew ?_))); (case side4 => exact HC0_1.out); (case side5 => repeat (first | exact (Kd.C_below HR0_2.out HB.out) | (with_reducible refine Kd.C_alloc ?_ _) | (with_reducible refine Kd.C_drewN ?_ _) | (with_reducible refine Kd.C_drew ?_))); (case side6 => exact HC0_2.out); rintro e w10 ⟨rfl, hb⟩; refine ⟨_, rfl, ?_⟩; have n0_ := Aside0.mk (blk_below (g := gb352) (o := .cells #[.slice A0_0 l0_0.length c0_0, .slice A0_1 l0_1.length c0_1, .slice A0_2 l0_2.length c0_2, .int .i64 a0_3] 26 (0, 0)) (by (with_reducible repeat (first | refine blk_drewN ?_ _ | refine blk_drew ?_ | refine blk_alloc ?_ _)); exact BK352.out) hb); have n1_ := Aside0.mk (below_step (by repeat (first | (with_reducible first | exact HB.out | apply below_alloc | apply pw_below_drewN | apply below_drew1 | refine below_set ?_ GE352.out) | exact HB.out)) hb); clear BK352; clear HB; have BK352 := n0_; have HB := n1_; clear n0_ n1_; (try clear hb); (try clear hb2); (try clear hk); (try clear hi); have hcz11_0 : w10.cell? ⟨gb352, 0, none⟩ = some (.slice A0_0 l0_0.length c0_0) := (blk_cell BK352.out 0).trans rfl; have hcz11_1 : w10.cell? ⟨gb352, 1, none⟩ = some (.slice A0_1 l0_1.length c0_1) := (blk_cell BK352.out 1).trans rfl; have hcz11_2 : w10.cell? ⟨gb352, 2, none⟩ = some (.slice A0_2 l0_2.length c0_2) := (blk_cell BK352.out 2).trans rfl; have hcz11_3 : w10.cell? ⟨gb352, 3, none⟩ = some (.int .i64 a0_3) := (blk_cell BK352.out 3).trans rfl; have hfz11_0 := blk_frozen BK352.out 0; have hfz11_1 := blk_frozen BK352.out 1; have hfz11_2 := blk_frozen BK352.out 2; have hfz11_3 := blk_frozen BK352.out 3) | ((with_reducible refine gate_callee (f := 17) rfl ?_); refine goesL_ (some 21) rfl rfl Try.func17 (by kernel_rfl) rfl #[.slice A0_0 l0_0.length c0_0, .slice A0_1 l0_1.length c0_1, .slice A0_2 l0_2.length c0_2, .int .i64 a0_3] rfl (by (try simp only [List.map_toArray, List.map_cons, List.map_nil]); first | done | rfl | (simp only [List.length_drop, List.length_take]; rfl)) ?_; (with_reducible refine (interp_Run.calls _ _ l0_0 _ _ l0_1 _ _ l0_2 a0_3 t355 _ ?side1 ?side2 ?side3 ?side4 ?side5 ?side6 A5.out).mono ?_); (case side1 => repeat (first | exact (Kd.C_below HR0_0.out HB.out) | (with_reducible refine Kd.C_alloc ?_ _) | (with_reducible refine Kd.C_drewN ?_ _) | (with_reducible refine Kd.C_drew ?_))); (case side2 => exact HC0_0.out); (case side3 => repeat (first | exact (Kd.C_below HR0_1.out HB.out) | (with_reducible refine Kd.C_alloc ?_ _) | (with_reducible refine Kd.C_drewN ?_ _) | (with_reducible refine Kd.C_drew ?_))); (case side4 => exact HC0_1.out); (case side5 => repeat (first | exact (Kd.C_below HR0_2.out HB.out) | (with_reducible refine Kd.C_alloc ?_ _) | (with_reducible refine Kd.C_drewN ?_ _) | (with_reducible refine Kd.C_drew ?_))); (case side6 => exact HC0_2.out); rintro e w12 ⟨v356, rfl, ho0, hb⟩; refine ⟨_, rfl, ?_⟩; have n0_ := Aside0.mk (Kd.S_lower ho0 (below_size (by repeat (first | (with_reducible first | exact HB.out | apply below_alloc | apply pw_below_drewN | apply below_drew1 | refine below_set ?_ GE352.out) | exact HB.out)))); have n1_ := Aside0.mk (blk_below (g := gb352) (o := .cells #[.slice A0_0 l0_0.length c0_0, .slice A0_1 l0_1.length c0_1, .slice A0_2 l0_2.length c0_2, .int .i64 a0_3] 26 (0, 0)) (by (with_reducible repeat (first | refine blk_drewN ?_ _ | refine blk_drew ?_ | refine blk_alloc ?_ _)); exact BK352.out) hb); have n2_ := Aside0.mk (below_step (by repeat (first | (with_reducible first | exact HB.out | apply below_alloc | apply pw_below_drewN | apply below_drew1 | refine below_set ?_ GE352.out) | exact HB.out)) hb); clear BK352; clear HB; have HO357 := n0_; have BK352 := n1_; have HB := n2_; clear n0_ n1_ n2_; (try clear hb); (try clear hb2); (try clear hk); (try clear hi); (try clear ho0)))
    (try simp only [Act.put, List.setIfInBounds_toArray, List.set_cons_zero, List.set_cons_succ])
    go_cut [30] (fun v30 wc => ∃ (kq : Nat) (x30_5 : Bool), v30 = .bool x30_5 ∧ Aside0 (lambrequinlaw22_InterpEnds.j0 kq t353 t355 x30_5 l0_0 l0_1 l0_2 a0_3 = some r) ∧ Aside0 (kq ≤ k) ∧ Aside0 (Kd.S k33 33 wc w.heap.size (fun _ => True) v356 t355) ∧ Aside0 (wc.heap[gb352]? = some (.cells #[(.slice A0_0 l0_0.length c0_0), (.slice A0_1 l0_1.length c0_1), (.slice A0_2 l0_2.length c0_2), .int .i64 a0_3] 26 (0, 0))) ∧ Aside0 (Below w.heap.size w wc))
    case first =>
      have H := HC6.out
      clear HC6
      by_cases c13 : (l0_0.length : Int) = 0
      · rw [if_pos c13] at H
        have c13b0 : ((l0_0.length : Int) == 0) = true := beq_iff_eq.mpr c13
        have c13b1 : ((l0_0.length : Int) != 0) = false := bne_eq_false_iff_eq.mpr c13
        clear c13
        (first | rw [c13b0] | (simp only [i64_w, i32_w]; rw [c13b0]) | skip)
        have H' := Aside0.mk H
        clear H
        have hcz14_0 : w12.cell? ⟨gb352, 0, none⟩ = some (.slice A0_0 l0_0.length c0_0) := (blk_cell BK352.out 0).trans rfl
        have hcz14_1 : w12.cell? ⟨gb352, 1, none⟩ = some (.slice A0_1 l0_1.length c0_1) := (blk_cell BK352.out 1).trans rfl
        have hcz14_2 : w12.cell? ⟨gb352, 2, none⟩ = some (.slice A0_2 l0_2.length c0_2) := (blk_cell BK352.out 2).trans rfl
        have hcz14_3 : w12.cell? ⟨gb352, 3, none⟩ = some (.int .i64 a0_3) := (blk_cell BK352.out 3).trans rfl
        have hfz14_0 := blk_frozen BK352.out 0
        have hfz14_1 := blk_frozen BK352.out 1
        have hfz14_2 := blk_frozen BK352.out 2
        have hfz14_3 := blk_frozen BK352.out 3
        go_wp2
        go_meet
        case rel => exact ⟨_, (true), (by first | rfl | (simp; done) | (simp [*]; done)), H', ⟨by first | omega | exact Nat.le_refl _⟩, ⟨by (with_reducible repeat (first | apply Kd.S_alloc | apply Kd.S_drewN | apply Kd.S_drew)); exact HO357.out⟩, ⟨by (with_reducible repeat (first | refine blk_drewN ?_ _ | refine blk_drew ?_ | refine blk_alloc ?_ _)); exact BK352.out⟩, ⟨by repeat (first | (with_reducible first | exact HB.out | apply below_alloc | apply pw_below_drewN | apply below_drew1 | refine below_set ?_ GE352.out) | exact HB.out)⟩⟩
      · rw [if_neg c13] at H
        have c13b0 : ((l0_0.length : Int) == 0) = false := beq_eq_false_iff_ne.mpr c13
        have c13b1 : ((l0_0.length : Int) != 0) = true := bne_iff_ne.mpr c13
        have c13b2 : ¬ (l0_0 = []) := fun h_ => c13 (by rw [h_]; rfl)
        (first | rw [c13b0] | (simp only [i64_w, i32_w]; rw [c13b0]) | skip)
        have H' := Aside0.mk H
        clear H
        have hcz15_0 : w12.cell? ⟨gb352, 0, none⟩ = some (.slice A0_0 l0_0.length c0_0) := (blk_cell BK352.out 0).trans rfl
        have hcz15_1 : w12.cell? ⟨gb352, 1, none⟩ = some (.slice A0_1 l0_1.length c0_1) := (blk_cell BK352.out 1).trans rfl
        have hcz15_2 : w12.cell? ⟨gb352, 2, none⟩ = some (.slice A0_2 l0_2.length c0_2) := (blk_cell BK352.out 2).trans rfl
        have hcz15_3 : w12.cell? ⟨gb352, 3, none⟩ = some (.int .i64 a0_3) := (blk_cell BK352.out 3).trans rfl
        have hfz15_0 := blk_frozen BK352.out 0
        have hfz15_1 := blk_frozen BK352.out 1
        have hfz15_2 := blk_frozen BK352.out 2
        have hfz15_3 := blk_frozen BK352.out 3
        go_wp2
        go_meet
        case rel => exact ⟨_, (decide (a0_3 ≤ 0)), (by first | rfl | (simp; done) | (simp [*]; done)), H', ⟨by first | omega | exact Nat.le_refl _⟩, ⟨by (with_reducible repeat (first | apply Kd.S_alloc | apply Kd.S_drewN | apply Kd.S_drew)); exact HO357.out⟩, ⟨by (with_reducible repeat (first | refine blk_drewN ?_ _ | refine blk_drew ?_ | refine blk_alloc ?_ _)); exact BK352.out⟩, ⟨by repeat (first | (with_reducible first | exact HB.out | apply below_alloc | apply pw_below_drewN | apply below_drew1 | refine below_set ?_ GE352.out) | exact HB.out)⟩⟩
    case rest =>
      clear HC6
      try clear c1
      try clear p2
      try clear c4
      try clear c13
      try clear c13b0
      try clear c13b1
      try clear c13b2
      try clear c15
      try clear hcz11_0
      try clear hcz11_1
      try clear hcz11_2
      try clear hcz11_3
      try clear hcz14_0
      try clear hcz14_1
      try clear hcz14_2
      try clear hcz14_3
      try clear hcz15_0
      try clear hcz15_1
      try clear hcz15_2
      try clear hcz15_3
      try clear hcz9_0
      try clear hcz9_1
      try clear hcz9_2
      try clear hcz9_3
      try clear hfz11_0
      try clear hfz11_1
      try clear hfz11_2
      try clear hfz11_3
      try clear hfz14_0
      try clear hfz14_1
      try clear hfz14_2
      try clear hfz14_3
      try clear hfz15_0
      try clear hfz15_1
      try clear hfz15_2
      try clear hfz15_3
      try clear hfz9_0
      try clear hfz9_1
      try clear hfz9_2
      try clear hfz9_3
      obtain ⟨kq, x30_5, rfl, HA, HJ5, HO_4, BK352, HB⟩ := hcut
      cases kq with
      | zero => exact absurd HA.out (by simp [lambrequinlaw22_InterpEnds.j0])
      | succ kj5 =>
        have H := HA.out
        clear HA
        simp only [lambrequinlaw22_InterpEnds.j0] at H
        by_cases c16 : x30_5 = true
        · subst c16
          have H1 : (if t353 = true then (some ((t355.length : Int) == 0)) else (some false)) = some r := by rw [if_pos rfl] at H; exact H
          clear H
          have H := H1
          clear H1
          by_cases c17 : t353 = true
          · subst c17
            have H1 : (some ((t355.length : Int) == 0)) = some r := by rw [if_pos rfl] at H; exact H
            clear H
            have H := H1
            clear H1
            obtain rfl := Option.some.inj H
            obtain ⟨Ao18, co18, eo18⟩ := Kd.S_slice HO_4.out
            subst eo18
            go_wp2
            go_ret
            exact ⟨by first | rfl | (simp [errW_none, errW_some] <;> rfl) | (simp [*, errW_none, errW_some] <;> rfl), by repeat (first | (with_reducible first | exact HB.out | apply below_alloc | apply pw_below_drewN | apply below_drew1 | refine below_set ?_ GE352.out) | exact HB.out)⟩
          · replace c17 := Bool.eq_false_iff.mpr c17
            subst c17
            have H1 : (some false) = some r := by rw [if_neg (show ¬ (false = true) by decide)] at H; exact H
            clear H
            have H := H1
            clear H1
            obtain rfl := Option.some.inj H
            go_wp2
            go_ret
            exact ⟨by first | rfl | (simp [errW_none, errW_some] <;> rfl) | (simp [*, errW_none, errW_some] <;> rfl), by repeat (first | (with_reducible first | exact HB.out | apply below_alloc | apply pw_below_drewN | apply below_drew1 | refine below_set ?_ GE352.out) | exact HB.out)⟩
        · replace c16 := Bool.eq_false_iff.mpr c16
          subst c16
          have H1 : (if (t355.length : Int) = 0 then (lambrequinlaw22_InterpEnds.j1 kj5 t353 t355 true l0_0 l0_1 l0_2 a0_3) else (lambrequinlaw22_InterpEnds.j1 kj5 t353 t355 ((t355.length : Int) == a0_3) l0_0 l0_1 l0_2 a0_3)) = some r := by rw [if_neg (show ¬ (false = true) by decide)] at H; exact H
          clear H
          have H := H1
          clear H1
          have HC19 := Aside0.mk H
          clear H
          go_upto_region 7 with (fail)
          go_cut [46] (fun v46 wc => ∃ (kq : Nat) (x46_18 : Bool), v46 = .bool x46_18 ∧ Aside0 (lambrequinlaw22_InterpEnds.j1 kq t353 t355 x46_18 l0_0 l0_1 l0_2 a0_3 = some r) ∧ Aside0 (kq ≤ kj5) ∧ Aside0 (Kd.S k33 33 wc w.heap.size (fun _ => True) v356 t355) ∧ Aside0 (wc.heap[gb352]? = some (.cells #[(.slice A0_0 l0_0.length c0_0), (.slice A0_1 l0_1.length c0_1), (.slice A0_2 l0_2.length c0_2), .int .i64 a0_3] 26 (0, 0))) ∧ Aside0 (Below w.heap.size w wc))
          case first =>
            have H := HC19.out
            clear HC19
            by_cases c20 : (t355.length : Int) = 0
            · rw [if_pos c20] at H
              have c20b0 : ((t355.length : Int) == 0) = true := beq_iff_eq.mpr c20
              have c20b1 : ((t355.length : Int) != 0) = false := bne_eq_false_iff_eq.mpr c20
              clear c20
              (first | rw [c20b0] | (simp only [i64_w, i32_w]; rw [c20b0]) | skip)
              have H' := Aside0.mk H
              clear H
              obtain ⟨Ao21, co21, eo21⟩ := Kd.S_slice HO_4.out
              subst eo21
              go_wp2
              go_meet
              case rel => exact ⟨_, (true), (by first | rfl | (simp; done) | (simp [*]; done)), H', ⟨by have := HJ5.out; first | omega | exact Nat.le_refl _⟩, ⟨by (with_reducible repeat (first | apply Kd.S_alloc | apply Kd.S_drewN | apply Kd.S_drew)); exact HO_4.out⟩, ⟨by (with_reducible repeat (first | refine blk_drewN ?_ _ | refine blk_drew ?_ | refine blk_alloc ?_ _)); exact BK352.out⟩, ⟨by repeat (first | (with_reducible first | exact HB.out | apply below_alloc | apply pw_below_drewN | apply below_drew1 | refine below_set ?_ GE352.out) | exact HB.out)⟩⟩
            · rw [if_neg c20] at H
              have c20b0 : ((t355.length : Int) == 0) = false := beq_eq_false_iff_ne.mpr c20
              have c20b1 : ((t355.length : Int) != 0) = true := bne_iff_ne.mpr c20
              have c20b2 : ¬ (t355 = []) := fun h_ => c20 (by rw [h_]; rfl)
              (first | rw [c20b0] | (simp only [i64_w, i32_w]; rw [c20b0]) | skip)
              have H' := Aside0.mk H
              clear H
              obtain ⟨Ao22, co22, eo22⟩ := Kd.S_slice HO_4.out
              subst eo22
              have hcz23_0 : wc.cell? ⟨gb352, 0, none⟩ = some (.slice A0_0 l0_0.length c0_0) := (blk_cell BK352.out 0).trans rfl
              have hcz23_1 : wc.cell? ⟨gb352, 1, none⟩ = some (.slice A0_1 l0_1.length c0_1) := (blk_cell BK352.out 1).trans rfl
              have hcz23_2 : wc.cell? ⟨gb352, 2, none⟩ = some (.slice A0_2 l0_2.length c0_2) := (blk_cell BK352.out 2).trans rfl
              have hcz23_3 : wc.cell? ⟨gb352, 3, none⟩ = some (.int .i64 a0_3) := (blk_cell BK352.out 3).trans rfl
              have hfz23_0 := blk_frozen BK352.out 0
              have hfz23_1 := blk_frozen BK352.out 1
              have hfz23_2 := blk_frozen BK352.out 2
              have hfz23_3 := blk_frozen BK352.out 3
              go_wp2
              go_meet
              case rel => exact ⟨_, (((t355.length : Int) == a0_3)), (by first | rfl | (simp; done) | (simp [*]; done)), H', ⟨by have := HJ5.out; first | omega | exact Nat.le_refl _⟩, ⟨by (with_reducible repeat (first | apply Kd.S_alloc | apply Kd.S_drewN | apply Kd.S_drew)); exact HO_4.out⟩, ⟨by (with_reducible repeat (first | refine blk_drewN ?_ _ | refine blk_drew ?_ | refine blk_alloc ?_ _)); exact BK352.out⟩, ⟨by repeat (first | (with_reducible first | exact HB.out | apply below_alloc | apply pw_below_drewN | apply below_drew1 | refine below_set ?_ GE352.out) | exact HB.out)⟩⟩
          case rest =>
            clear HC19
            try clear c1
            try clear c2
            try clear p2
            try clear c4
            try clear c13
            try clear c13b0
            try clear c13b1
            try clear c13b2
            try clear c15
            try clear c16
            try clear c17
            try clear c20
            try clear c20b0
            try clear c20b1
            try clear c20b2
            try clear hcz11_0
            try clear hcz11_1
            try clear hcz11_2
            try clear hcz11_3
            try clear hcz14_0
            try clear hcz14_1
            try clear hcz14_2
            try clear hcz14_3
            try clear hcz15_0
            try clear hcz15_1
            try clear hcz15_2
            try clear hcz15_3
            try clear hcz23_0
            try clear hcz23_1
            try clear hcz23_2
            try clear hcz23_3
            try clear hcz9_0
            try clear hcz9_1
            try clear hcz9_2
            try clear hcz9_3
            try clear hfz11_0
            try clear hfz11_1
            try clear hfz11_2
            try clear hfz11_3
            try clear hfz14_0
            try clear hfz14_1
            try clear hfz14_2
            try clear hfz14_3
            try clear hfz15_0
            try clear hfz15_1
            try clear hfz15_2
            try clear hfz15_3
            try clear hfz23_0
            try clear hfz23_1
            try clear hfz23_2
            try clear hfz23_3
            try clear hfz9_0
            try clear hfz9_1
            try clear hfz9_2
            try clear hfz9_3
            try clear p2
            obtain ⟨kq, x46_18, rfl, HA, HJ18, HO_4, BK352, HB⟩ := hcut
            cases kq with
            | zero => exact absurd HA.out (by simp [lambrequinlaw22_InterpEnds.j1])
            | succ kj18 =>
              have H := HA.out
              clear HA
              simp only [lambrequinlaw22_InterpEnds.j1] at H
              by_cases c24 : x46_18 = true
              · subst c24
                have H1 : (if t353 = true then (some (decide ((t355.length : Int) > 0))) else (some false)) = some r := by rw [if_pos rfl] at H; exact H
                clear H
                have H := H1
                clear H1
                by_cases c25 : t353 = true
                · subst c25
                  have H1 : (some (decide ((t355.length : Int) > 0))) = some r := by rw [if_pos rfl] at H; exact H
                  clear H
                  have H := H1
                  clear H1
                  obtain rfl := Option.some.inj H
                  obtain ⟨Ao26, co26, eo26⟩ := Kd.S_slice HO_4.out
                  subst eo26
                  go_wp2
                  go_ret
                  exact ⟨by first | rfl | (simp [errW_none, errW_some] <;> rfl) | (simp [*, errW_none, errW_some] <;> rfl), by repeat (first | (with_reducible first | exact HB.out | apply below_alloc | apply pw_below_drewN | apply below_drew1 | refine below_set ?_ GE352.out) | exact HB.out)⟩
                · replace c25 := Bool.eq_false_iff.mpr c25
                  subst c25
                  have H1 : (some false) = some r := by rw [if_neg (show ¬ (false = true) by decide)] at H; exact H
                  clear H
                  have H := H1
                  clear H1
                  obtain rfl := Option.some.inj H
                  go_wp2
                  go_ret
                  exact ⟨by first | rfl | (simp [errW_none, errW_some] <;> rfl) | (simp [*, errW_none, errW_some] <;> rfl), by repeat (first | (with_reducible first | exact HB.out | apply below_alloc | apply pw_below_drewN | apply below_drew1 | refine below_set ?_ GE352.out) | exact HB.out)⟩
              · replace c24 := Bool.eq_false_iff.mpr c24
                subst c24
                have H1 : (if 0 ≤ (wrap64 ((t355.length : Int) - 1)) then (if (wrap64 ((t355.length : Int) - 1)) < (t355.length : Int) then (if ((rd_T33 t355 (wrap64 ((t355.length : Int) - 1))).f0) < 0 then (lambrequinlaw22_InterpEnds.j2 kj18 t353 ((rd_T33 t355 (wrap64 ((t355.length : Int) - 1))).f0) true l0_0 l0_1 l0_2 a0_3) else (lambrequinlaw22_InterpEnds.j2 kj18 t353 ((rd_T33 t355 (wrap64 ((t355.length : Int) - 1))).f0) (decide (((rd_T33 t355 (wrap64 ((t355.length : Int) - 1))).f0) ≥ (l0_0.length : Int))) l0_0 l0_1 l0_2 a0_3)) else (none)) else (none)) = some r := by rw [if_neg (show ¬ (false = true) by decide)] at H; exact H
                clear H
                have H := H1
                clear H1
                obtain ⟨ji27, hji27⟩ : ∃ j_ : Int, (wrap64 ((t355.length : Int) - 1)) = j_ := ⟨_, rfl⟩
                replace H : (if 0 ≤ (ji27) then (if (ji27) < (t355.length : Int) then (if ((rd_T33 t355 (ji27)).f0) < 0 then (lambrequinlaw22_InterpEnds.j2 kj18 t353 ((rd_T33 t355 (ji27)).f0) true l0_0 l0_1 l0_2 a0_3) else (lambrequinlaw22_InterpEnds.j2 kj18 t353 ((rd_T33 t355 (ji27)).f0) (decide (((rd_T33 t355 (ji27)).f0) ≥ (l0_0.length : Int))) l0_0 l0_1 l0_2 a0_3)) else (none)) else (none)) = some r := by first | (rw [hji27] at H; exact H) | (simp only [hji27] at H ⊢; exact H)
                have hji27w : (IntKind.i64.wrap ((t355.length : Int) - 1)) = ji27 := (i64_w _).trans hji27
                by_cases c28 : 0 ≤ (ji27)
                · rw [if_pos c28] at H
                  have c28b0 : decide (0 ≤ (ji27)) = true := decide_eq_true c28
                  clear c28
                  by_cases c29 : (ji27) < (t355.length : Int)
                  · rw [if_pos c29] at H
                    have c29b0 : decide ((ji27) < (t355.length : Int)) = true := decide_eq_true c29
                    clear c29
                    have HC30 := Aside0.mk H
                    clear H
                    obtain ⟨Ao31, co31, eo31⟩ := Kd.S_slice HO_4.out
                    subst eo31
                    have p358 : 0 ≤ ((ji27) : Int) := of_decide_eq_true (by first | (with_reducible assumption) | assumption)
                    have q358 : (ji27) < (t355.length : Int) := of_decide_eq_true (by first | (with_reducible assumption) | assumption)
                    obtain ⟨ad358, A358_1, c358_1, e358, hx358_0, hx358_1, hl358_1, hi358_1⟩ := at_T33 (Kd.S_reads' HO_4.out).2.2 (ji27) p358 q358
                    cases e358
                    obtain ⟨ce358, hce358, hMe358, hcc358⟩ := Kd.S_get HO_4.out z33 (ji27) p358 (by first | exact q358 | exact of_decide_eq_true (by first | (with_reducible assumption) | assumption) | (have e_ := (Kd.S_reads' HO_4.out).1; omega))
                    obtain ⟨ve358_1, rfl, ge358_1⟩ := k33_openM hMe358
                    have hv358_1 := hcc358 1 _ rfl
                    rw [add_field _ _ 1 (by omega)] at hv358_1
                    replace hv358_1 := Option.some.inj (hv358_1.symm.trans hx358_1)
                    rw [hv358_1] at ge358_1
                    have HL358_1 := Aside0.mk (show Kd.R k35 35 _ _ _ _ ((rd_T33 t355 (ji27)).f1) from ge358_1)
                    clear hv358_1 ge358_1
                    clear hcc358 hce358
                    have HR358_1 := Aside0.mk hi358_1
                    have HC358_1 := Aside0.mk hl358_1
                    clear hi358_1 hl358_1
                    replace p358 := eq_true p358
                    replace q358 := eq_true q358
                    go_upto_region 10 with (fail)
                    go_cut [68] (fun v68 wc => ∃ (kq : Nat) (x68_29 : Bool), v68 = .bool x68_29 ∧ Aside0 (lambrequinlaw22_InterpEnds.j2 kq t353 ((rd_T33 t355 (ji27)).f0) x68_29 l0_0 l0_1 l0_2 a0_3 = some r) ∧ Aside0 (kq ≤ kj18) ∧ Aside0 (wc.heap[gb352]? = some (.cells #[(.slice A0_0 l0_0.length c0_0), (.slice A0_1 l0_1.length c0_1), (.slice A0_2 l0_2.length c0_2), .int .i64 a0_3] 26 (0, 0))) ∧ Aside0 (Kd.C k35 wc A358_1 ((rd_T33 t355 (ji27)).f1).length ((rd_T33 t355 (ji27)).f1)) ∧ Aside0 (Below w.heap.size w wc))
                    case first =>
                      have H := HC30.out
                      clear HC30
                      by_cases c32 : ((rd_T33 t355 (ji27)).f0) < 0
                      · rw [if_pos c32] at H
                        have c32b0 : decide (((rd_T33 t355 (ji27)).f0) < 0) = true := decide_eq_true c32
                        clear c32
                        (first | rw [c32b0] | (simp only [i64_w, i32_w]; rw [c32b0]) | skip)
                        have H' := Aside0.mk H
                        clear H
                        go_wp2
                        go_meet
                        case rel => exact ⟨_, (true), (by first | rfl | (simp; done) | (simp [*]; done)), H', ⟨by have := HJ5.out; have := HJ18.out; first | omega | exact Nat.le_refl _⟩, ⟨by (with_reducible repeat (first | refine blk_drewN ?_ _ | refine blk_drew ?_ | refine blk_alloc ?_ _)); exact BK352.out⟩, ⟨by repeat (first | (with_reducible exact HR358_1.out) | (with_reducible refine Kd.C_alloc ?_ _) | (with_reducible refine Kd.C_drewN ?_ _) | (with_reducible refine Kd.C_drew ?_) | exact HR358_1.out)⟩, ⟨by repeat (first | (with_reducible first | exact HB.out | apply below_alloc | apply pw_below_drewN | apply below_drew1 | refine below_set ?_ GE352.out) | exact HB.out)⟩⟩
                      · rw [if_neg c32] at H
                        have c32b0 : decide (((rd_T33 t355 (ji27)).f0) < 0) = false := decide_eq_false c32
                        clear c32
                        (first | rw [c32b0] | (simp only [i64_w, i32_w]; rw [c32b0]) | skip)
                        have H' := Aside0.mk H
                        clear H
                        have hcz33_0 : wc.cell? ⟨gb352, 0, none⟩ = some (.slice A0_0 l0_0.length c0_0) := (blk_cell BK352.out 0).trans rfl
                        have hcz33_1 : wc.cell? ⟨gb352, 1, none⟩ = some (.slice A0_1 l0_1.length c0_1) := (blk_cell BK352.out 1).trans rfl
                        have hcz33_2 : wc.cell? ⟨gb352, 2, none⟩ = some (.slice A0_2 l0_2.length c0_2) := (blk_cell BK352.out 2).trans rfl
                        have hcz33_3 : wc.cell? ⟨gb352, 3, none⟩ = some (.int .i64 a0_3) := (blk_cell BK352.out 3).trans rfl
                        have hfz33_0 := blk_frozen BK352.out 0
                        have hfz33_1 := blk_frozen BK352.out 1
                        have hfz33_2 := blk_frozen BK352.out 2
                        have hfz33_3 := blk_frozen BK352.out 3
                        go_wp2
                        go_meet
                        case rel => exact ⟨_, (decide (((rd_T33 t355 (ji27)).f0) ≥ (l0_0.length : Int))), (by first | rfl | (simp; done) | (simp only [← hji27] <;> (first | rfl | simp)) | (simp [*]; done)), H', ⟨by have := HJ5.out; have := HJ18.out; first | omega | exact Nat.le_refl _⟩, ⟨by (with_reducible repeat (first | refine blk_drewN ?_ _ | refine blk_drew ?_ | refine blk_alloc ?_ _)); exact BK352.out⟩, ⟨by repeat (first | (with_reducible exact HR358_1.out) | (with_reducible refine Kd.C_alloc ?_ _) | (with_reducible refine Kd.C_drewN ?_ _) | (with_reducible refine Kd.C_drew ?_) | exact HR358_1.out)⟩, ⟨by repeat (first | (with_reducible first | exact HB.out | apply below_alloc | apply pw_below_drewN | apply below_drew1 | refine below_set ?_ GE352.out) | exact HB.out)⟩⟩
                    case rest =>
                      clear HC30
                      try clear c1
                      try clear c2
                      try clear p2
                      try clear c3
                      try clear p3
                      try clear q3
                      try clear hx3
                      try clear c4
                      try clear p6
                      try clear c13
                      try clear c13b0
                      try clear c13b1
                      try clear c13b2
                      try clear c15
                      try clear c16
                      try clear c17
                      try clear c20
                      try clear c20b0
                      try clear c20b1
                      try clear c20b2
                      try clear c24
                      try clear c25
                      try clear c28
                      try clear c28b0
                      try clear c29
                      try clear c29b0
                      try clear c32
                      try clear c32b0
                      try clear hcz11_0
                      try clear hcz11_1
                      try clear hcz11_2
                      try clear hcz11_3
                      try clear hcz14_0
                      try clear hcz14_1
                      try clear hcz14_2
                      try clear hcz14_3
                      try clear hcz15_0
                      try clear hcz15_1
                      try clear hcz15_2
                      try clear hcz15_3
                      try clear hcz23_0
                      try clear hcz23_1
                      try clear hcz23_2
                      try clear hcz23_3
                      try clear hcz33_0
                      try clear hcz33_1
                      try clear hcz33_2
                      try clear hcz33_3
                      try clear hcz9_0
                      try clear hcz9_1
                      try clear hcz9_2
                      try clear hcz9_3
                      try clear hfz11_0
                      try clear hfz11_1
                      try clear hfz11_2
                      try clear hfz11_3
                      try clear hfz14_0
                      try clear hfz14_1
                      try clear hfz14_2
                      try clear hfz14_3
                      try clear hfz15_0
                      try clear hfz15_1
                      try clear hfz15_2
                      try clear hfz15_3
                      try clear hfz23_0
                      try clear hfz23_1
                      try clear hfz23_2
                      try clear hfz23_3
                      try clear hfz33_0
                      try clear hfz33_1
                      try clear hfz33_2
                      try clear hfz33_3
                      try clear hfz9_0
                      try clear hfz9_1
                      try clear hfz9_2
                      try clear hfz9_3
                      try clear hx358_0
                      try clear hx358_1
                      try clear p2
                      try clear p358
                      try clear q358
                      obtain ⟨kq, x68_29, rfl, HA, HJ29, BK352, HR358_1, HB⟩ := hcut
                      cases kq with
                      | zero => exact absurd HA.out (by simp [lambrequinlaw22_InterpEnds.j2])
                      | succ kj29 =>
                        have H := HA.out
                        clear HA
                        simp only [lambrequinlaw22_InterpEnds.j2] at H
                        by_cases c34 : x68_29 = true
                        · subst c34
                          have H1 : (some false) = some r := by rw [if_pos rfl] at H; exact H
                          clear H
                          have H := H1
                          clear H1
                          obtain rfl := Option.some.inj H
                          go_wp2
                          go_ret
                          exact ⟨by first | rfl | (simp [errW_none, errW_some] <;> rfl) | (simp only [← hji27]; first | rfl | (simp [errW_none, errW_some] <;> rfl)) | (simp [*, errW_none, errW_some] <;> rfl), by repeat (first | (with_reducible first | exact HB.out | apply below_alloc | apply pw_below_drewN | apply below_drew1 | refine below_set ?_ GE352.out) | exact HB.out)⟩
                        · replace c34 := Bool.eq_false_iff.mpr c34
                          subst c34
                          have H1 : (if 0 ≤ ((rd_T33 t355 (ji27)).f0) then (if ((rd_T33 t355 (ji27)).f0) < (l0_0.length : Int) then (if ((rd_T38 l0_0 ((rd_T33 t355 (ji27)).f0)).f0) = 7 then (if ((rd_T38 l0_0 ((rd_T33 t355 (ji27)).f0)).f6) < 0 then (if t353 = true then (some true) else (some false)) else (if ((rd_T38 l0_0 ((rd_T33 t355 (ji27)).f0)).f6) ≥ (l0_0.length : Int) then (if t353 = true then (some true) else (some false)) else (if ((rd_T38 l0_0 ((rd_T33 t355 (ji27)).f0)).f7) < 0 then (if t353 = true then (some true) else (some false)) else (if t353 = true then (if ((rd_T38 l0_0 ((rd_T33 t355 (ji27)).f0)).f7) ≥ (l0_0.length : Int) then (some true) else (some (((rd_T38 l0_0 ((rd_T33 t355 (ji27)).f0)).f0) == 9))) else (some false))))) else (if ((rd_T38 l0_0 ((rd_T33 t355 (ji27)).f0)).f0) = 8 then (if ((rd_T38 l0_0 ((rd_T33 t355 (ji27)).f0)).f6) < 0 then (if t353 = true then (some true) else (some false)) else (if ((rd_T38 l0_0 ((rd_T33 t355 (ji27)).f0)).f6) ≥ (l0_0.length : Int) then (if t353 = true then (some true) else (some false)) else (if t353 = true then (some (((rd_T38 l0_0 ((rd_T33 t355 (ji27)).f0)).f0) == 9)) else (some false)))) else (if t353 = true then (if ((rd_T33 t355 (ji27)).f0) = (wrap64 ((l0_0.length : Int) - 1)) then (some true) else (some (((rd_T38 l0_0 ((rd_T33 t355 (ji27)).f0)).f0) == 9))) else (some false)))) else (none)) else (none)) = some r := by rw [if_neg (show ¬ (false = true) by decide)] at H; exact H
                          clear H
                          have H := H1
                          clear H1
                          by_cases c35 : 0 ≤ ((rd_T33 t355 (ji27)).f0)
                          · rw [if_pos c35] at H
                            have c35b0 : decide (0 ≤ ((rd_T33 t355 (ji27)).f0)) = true := decide_eq_true c35
                            clear c35
                            by_cases c36 : ((rd_T33 t355 (ji27)).f0) < (l0_0.length : Int)
                            · rw [if_pos c36] at H
                              have c36b0 : decide (((rd_T33 t355 (ji27)).f0) < (l0_0.length : Int)) = true := decide_eq_true c36
                              clear c36
                              by_cases c37 : ((rd_T38 l0_0 ((rd_T33 t355 (ji27)).f0)).f0) = 7
                              · rw [if_pos c37] at H
                                have c37b0 : (((rd_T38 l0_0 ((rd_T33 t355 (ji27)).f0)).f0) == 7) = true := beq_iff_eq.mpr c37
                                have c37b1 : (((rd_T38 l0_0 ((rd_T33 t355 (ji27)).f0)).f0) != 7) = false := bne_eq_false_iff_eq.mpr c37
                                clear c37
                                by_cases c38 : ((rd_T38 l0_0 ((rd_T33 t355 (ji27)).f0)).f6) < 0
                                · rw [if_pos c38] at H
                                  have c38b0 : decide (((rd_T38 l0_0 ((rd_T33 t355 (ji27)).f0)).f6) < 0) = true := decide_eq_true c38
                                  clear c38
                                  by_cases c39 : t353 = true
                                  · subst c39
                                    have H1 : (some true) = some r := by rw [if_pos rfl] at H; exact H
                                    clear H
                                    have H := H1
                                    clear H1
                                    obtain rfl := Option.some.inj H
                                    have hcz40_0 : wc.cell? ⟨gb352, 0, none⟩ = some (.slice A0_0 l0_0.length c0_0) := (blk_cell BK352.out 0).trans rfl
                                    have hcz40_1 : wc.cell? ⟨gb352, 1, none⟩ = some (.slice A0_1 l0_1.length c0_1) := (blk_cell BK352.out 1).trans rfl
                                    have hcz40_2 : wc.cell? ⟨gb352, 2, none⟩ = some (.slice A0_2 l0_2.length c0_2) := (blk_cell BK352.out 2).trans rfl
                                    have hcz40_3 : wc.cell? ⟨gb352, 3, none⟩ = some (.int .i64 a0_3) := (blk_cell BK352.out 3).trans rfl
                                    have hfz40_0 := blk_frozen BK352.out 0
                                    have hfz40_1 := blk_frozen BK352.out 1
                                    have hfz40_2 := blk_frozen BK352.out 2
                                    have hfz40_3 := blk_frozen BK352.out 3
                                    have p359 : 0 ≤ (((rd_T33 t355 (ji27)).f0) : Int) := of_decide_eq_true (by first | (with_reducible assumption) | assumption)
                                    have q359 : ((rd_T33 t355 (ji27)).f0) < (l0_0.length : Int) := of_decide_eq_true (by first | (with_reducible assumption) | assumption)
                                    obtain ⟨ad359, e359, hx359_0, hx359_1, hx359_2, hx359_3, hx359_4, hx359_5, hx359_6, hx359_7⟩ := at_T38 HR0_0.out ((rd_T33 t355 (ji27)).f0) p359 q359
                                    cases e359
                                    replace hx359_0 := (HB.out.cell (World.block_lt_of_cell? w _ hx359_0)).trans hx359_0
                                    replace hx359_1 := (HB.out.cell (World.block_lt_of_cell? w _ hx359_1)).trans hx359_1
                                    replace hx359_2 := (HB.out.cell (World.block_lt_of_cell? w _ hx359_2)).trans hx359_2
                                    replace hx359_3 := (HB.out.cell (World.block_lt_of_cell? w _ hx359_3)).trans hx359_3
                                    replace hx359_4 := (HB.out.cell (World.block_lt_of_cell? w _ hx359_4)).trans hx359_4
                                    replace hx359_5 := (HB.out.cell (World.block_lt_of_cell? w _ hx359_5)).trans hx359_5
                                    replace hx359_6 := (HB.out.cell (World.block_lt_of_cell? w _ hx359_6)).trans hx359_6
                                    replace hx359_7 := (HB.out.cell (World.block_lt_of_cell? w _ hx359_7)).trans hx359_7
                                    replace p359 := eq_true p359
                                    replace q359 := eq_true q359
                                    go_wp2_with (first | ((with_reducible refine gate_dst (N := 6) rfl ?_); (try (refine gate_guard (by rfl) ?_; dsimp only)); refine box_event ?hg (N := 6) ?hd (cs := #[.int .i64 0, .string (⟨#[]⟩ : ByteArray), .string (⟨#[]⟩ : ByteArray), .string (⟨#[]⟩ : ByteArray), .string (⟨#[]⟩ : ByteArray), .int .i64 0, .int .i64 0, .int .i64 0]) (t := 38) ?hr ?_; (case hd => rfl); (case hg => rfl); (case hr => first | (go_simp; done) | (go_simp; rfl)); intro gb360 hg w41 hbox hb; have n0_ := Aside0.mk (blk_below (g := gb352) (o := .cells #[.slice (some ad359) l0_0.length c0_0, .slice A0_1 l0_1.length c0_1, .slice A0_2 l0_2.length c0_2, .int .i64 a0_3] 26 (0, 0)) (by (with_reducible repeat (first | refine blk_drewN ?_ _ | refine blk_drew ?_ | refine blk_alloc ?_ _)); exact BK352.out) hb); have n1_ := Aside0.mk (Kd.C_below (by repeat (first | (with_reducible exact HR358_1.out) | (with_reducible refine Kd.C_alloc ?_ _) | (with_reducible refine Kd.C_drewN ?_ _) | (with_reducible refine Kd.C_drew ?_) | exact HR358_1.out)) hb); have n2_ := Aside0.mk (below_step (by repeat (first | (with_reducible first | exact HB.out | apply below_alloc | apply pw_below_drewN | apply below_drew1 | refine below_set ?_ GE352.out) | exact HB.out)) hb); have n3_ := Aside0.mk (hbox); have n4_ := Aside0.mk ((by rw [hg]; exact (below_size (by repeat (first | (with_reducible first | exact HB.out | apply below_alloc | apply pw_below_drewN | apply below_drew1 | refine below_set ?_ GE352.out) | exact HB.out))) : w.heap.size ≤ gb360)); have n5_ := Aside0.mk ((by rw [hg]; exact (below_size (by repeat (first | (with_reducible first | exact HB.out | apply below_alloc | apply pw_below_drewN | apply below_drew1 | refine below_set ?_ GE352.out) | exact HB.out))) : w.heap.size ≤ gb360)); have n6_ := Aside0.mk ((by rw [hg]; exact Nat.ne_of_lt (blk_lt (g := gb352) (o := .cells #[.slice (some ad359) l0_0.length c0_0, .slice A0_1 l0_1.length c0_1, .slice A0_2 l0_2.length c0_2, .int .i64 a0_3] 26 (0, 0)) (by (with_reducible repeat (first | refine blk_drewN ?_ _ | refine blk_drew ?_ | refine blk_alloc ?_ _)); exact BK352.out)) : gb352 ≠ gb360)); have n7_ := Aside0.mk ((by rw [hg]; exact Nat.ne_of_gt (blk_lt (g := gb352) (o := .cells #[.slice (some ad359) l0_0.length c0_0, .slice A0_1 l0_1.length c0_1, .slice A0_2 l0_2.length c0_2, .int .i64 a0_3] 26 (0, 0)) (by (with_reducible repeat (first | refine blk_drewN ?_ _ | refine blk_drew ?_ | refine blk_alloc ?_ _)); exact BK352.out)) : gb360 ≠ gb352)); clear BK352; clear HR358_1; clear HB; have BK352 := n0_; have HR358_1 := n1_; have HB := n2_; have BK360 := n3_; have GW360 := n4_; have GE360 := n5_; have NB352_360 := n6_; have NB360_352 := n7_; clear n0_ n1_ n2_ n3_ n4_ n5_ n6_ n7_; clear hb hbox hg; have hnb42 := NB360_352.out; have hnc42 := NB352_360.out; have hcz43_0 : w41.cell? ⟨gb360, 0, none⟩ = some (.int .i64 0) := (blk_cell BK360.out 0).trans rfl; have hcz43_1 : w41.cell? ⟨gb360, 1, none⟩ = some (.string (⟨#[]⟩ : ByteArray)) := (blk_cell BK360.out 1).trans rfl; have hcz43_2 : w41.cell? ⟨gb360, 2, none⟩ = some (.string (⟨#[]⟩ : ByteArray)) := (blk_cell BK360.out 2).trans rfl; have hcz43_3 : w41.cell? ⟨gb360, 3, none⟩ = some (.string (⟨#[]⟩ : ByteArray)) := (blk_cell BK360.out 3).trans rfl; have hcz43_4 : w41.cell? ⟨gb360, 4, none⟩ = some (.string (⟨#[]⟩ : ByteArray)) := (blk_cell BK360.out 4).trans rfl; have hcz43_5 : w41.cell? ⟨gb360, 5, none⟩ = some (.int .i64 0) := (blk_cell BK360.out 5).trans rfl; have hcz43_6 : w41.cell? ⟨gb360, 6, none⟩ = some (.int .i64 0) := (blk_cell BK360.out 6).trans rfl; have hcz43_7 : w41.cell? ⟨gb360, 7, none⟩ = some (.int .i64 0) := (blk_cell BK360.out 7).trans rfl; have hfz43_0 := blk_frozen BK360.out 0; have hfz43_1 := blk_frozen BK360.out 1; have hfz43_2 := blk_frozen BK360.out 2; have hfz43_3 := blk_frozen BK360.out 3; have hfz43_4 := blk_frozen BK360.out 4; have hfz43_5 := blk_frozen BK360.out 5; have hfz43_6 := blk_frozen BK360.out 6; have hfz43_7 := blk_frozen BK360.out 7; have hcz44_0 : w41.cell? ⟨gb352, 0, none⟩ = some (.slice (some ad359) l0_0.length c0_0) := (blk_cell BK352.out 0).trans rfl; have hcz44_1 : w41.cell? ⟨gb352, 1, none⟩ = some (.slice A0_1 l0_1.length c0_1) := (blk_cell BK352.out 1).trans rfl; have hcz44_2 : w41.cell? ⟨gb352, 2, none⟩ = some (.slice A0_2 l0_2.length c0_2) := (blk_cell BK352.out 2).trans rfl; have hcz44_3 : w41.cell? ⟨gb352, 3, none⟩ = some (.int .i64 a0_3) := (blk_cell BK352.out 3).trans rfl; have hfz44_0 := blk_frozen BK352.out 0; have hfz44_1 := blk_frozen BK352.out 1; have hfz44_2 := blk_frozen BK352.out 2; have hfz44_3 := blk_frozen BK352.out 3))
                                    go_ret
                                    exact ⟨by first | rfl | (simp [errW_none, errW_some] <;> rfl) | (simp only [← hji27]; first | rfl | (simp [errW_none, errW_some] <;> rfl)) | (simp [*, errW_none, errW_some] <;> rfl), by repeat (first | (with_reducible first | exact HB.out | apply below_alloc | apply pw_below_drewN | apply below_drew1 | refine below_set ?_ GE352.out | refine below_set ?_ GE360.out) | exact HB.out)⟩
                                  · replace c39 := Bool.eq_false_iff.mpr c39
                                    subst c39
                                    have H1 : (some false) = some r := by rw [if_neg (show ¬ (false = true) by decide)] at H; exact H
                                    clear H
                                    have H := H1
                                    clear H1
                                    obtain rfl := Option.some.inj H
                                    have hcz45_0 : wc.cell? ⟨gb352, 0, none⟩ = some (.slice A0_0 l0_0.length c0_0) := (blk_cell BK352.out 0).trans rfl
                                    have hcz45_1 : wc.cell? ⟨gb352, 1, none⟩ = some (.slice A0_1 l0_1.length c0_1) := (blk_cell BK352.out 1).trans rfl
                                    have hcz45_2 : wc.cell? ⟨gb352, 2, none⟩ = some (.slice A0_2 l0_2.length c0_2) := (blk_cell BK352.out 2).trans rfl
                                    have hcz45_3 : wc.cell? ⟨gb352, 3, none⟩ = some (.int .i64 a0_3) := (blk_cell BK352.out 3).trans rfl
                                    have hfz45_0 := blk_frozen BK352.out 0
                                    have hfz45_1 := blk_frozen BK352.out 1
                                    have hfz45_2 := blk_frozen BK352.out 2
                                    have hfz45_3 := blk_frozen BK352.out 3
                                    have p359 : 0 ≤ (((rd_T33 t355 (ji27)).f0) : Int) := of_decide_eq_true (by first | (with_reducible assumption) | assumption)
                                    have q359 : ((rd_T33 t355 (ji27)).f0) < (l0_0.length : Int) := of_decide_eq_true (by first | (with_reducible assumption) | assumption)
                                    obtain ⟨ad359, e359, hx359_0, hx359_1, hx359_2, hx359_3, hx359_4, hx359_5, hx359_6, hx359_7⟩ := at_T38 HR0_0.out ((rd_T33 t355 (ji27)).f0) p359 q359
                                    cases e359
                                    replace hx359_0 := (HB.out.cell (World.block_lt_of_cell? w _ hx359_0)).trans hx359_0
                                    replace hx359_1 := (HB.out.cell (World.block_lt_of_cell? w _ hx359_1)).trans hx359_1
                                    replace hx359_2 := (HB.out.cell (World.block_lt_of_cell? w _ hx359_2)).trans hx359_2
                                    replace hx359_3 := (HB.out.cell (World.block_lt_of_cell? w _ hx359_3)).trans hx359_3
                                    replace hx359_4 := (HB.out.cell (World.block_lt_of_cell? w _ hx359_4)).trans hx359_4
                                    replace hx359_5 := (HB.out.cell (World.block_lt_of_cell? w _ hx359_5)).trans hx359_5
                                    replace hx359_6 := (HB.out.cell (World.block_lt_of_cell? w _ hx359_6)).trans hx359_6
                                    replace hx359_7 := (HB.out.cell (World.block_lt_of_cell? w _ hx359_7)).trans hx359_7
                                    replace p359 := eq_true p359
                                    replace q359 := eq_true q359
                                    go_wp2_with (first | ((with_reducible refine gate_dst (N := 6) rfl ?_); (try (refine gate_guard (by rfl) ?_; dsimp only)); refine box_event ?hg (N := 6) ?hd (cs := #[.int .i64 0, .string (⟨#[]⟩ : ByteArray), .string (⟨#[]⟩ : ByteArray), .string (⟨#[]⟩ : ByteArray), .string (⟨#[]⟩ : ByteArray), .int .i64 0, .int .i64 0, .int .i64 0]) (t := 38) ?hr ?_; (case hd => rfl); (case hg => rfl); (case hr => first | (go_simp; done) | (go_simp; rfl)); intro gb360 hg w46 hbox hb; have n0_ := Aside0.mk (blk_below (g := gb352) (o := .cells #[.slice (some ad359) l0_0.length c0_0, .slice A0_1 l0_1.length c0_1, .slice A0_2 l0_2.length c0_2, .int .i64 a0_3] 26 (0, 0)) (by (with_reducible repeat (first | refine blk_drewN ?_ _ | refine blk_drew ?_ | refine blk_alloc ?_ _)); exact BK352.out) hb); have n1_ := Aside0.mk (Kd.C_below (by repeat (first | (with_reducible exact HR358_1.out) | (with_reducible refine Kd.C_alloc ?_ _) | (with_reducible refine Kd.C_drewN ?_ _) | (with_reducible refine Kd.C_drew ?_) | exact HR358_1.out)) hb); have n2_ := Aside0.mk (below_step (by repeat (first | (with_reducible first | exact HB.out | apply below_alloc | apply pw_below_drewN | apply below_drew1 | refine below_set ?_ GE352.out) | exact HB.out)) hb); have n3_ := Aside0.mk (hbox); have n4_ := Aside0.mk ((by rw [hg]; exact (below_size (by repeat (first | (with_reducible first | exact HB.out | apply below_alloc | apply pw_below_drewN | apply below_drew1 | refine below_set ?_ GE352.out) | exact HB.out))) : w.heap.size ≤ gb360)); have n5_ := Aside0.mk ((by rw [hg]; exact (below_size (by repeat (first | (with_reducible first | exact HB.out | apply below_alloc | apply pw_below_drewN | apply below_drew1 | refine below_set ?_ GE352.out) | exact HB.out))) : w.heap.size ≤ gb360)); have n6_ := Aside0.mk ((by rw [hg]; exact Nat.ne_of_lt (blk_lt (g := gb352) (o := .cells #[.slice (some ad359) l0_0.length c0_0, .slice A0_1 l0_1.length c0_1, .slice A0_2 l0_2.length c0_2, .int .i64 a0_3] 26 (0, 0)) (by (with_reducible repeat (first | refine blk_drewN ?_ _ | refine blk_drew ?_ | refine blk_alloc ?_ _)); exact BK352.out)) : gb352 ≠ gb360)); have n7_ := Aside0.mk ((by rw [hg]; exact Nat.ne_of_gt (blk_lt (g := gb352) (o := .cells #[.slice (some ad359) l0_0.length c0_0, .slice A0_1 l0_1.length c0_1, .slice A0_2 l0_2.length c0_2, .int .i64 a0_3] 26 (0, 0)) (by (with_reducible repeat (first | refine blk_drewN ?_ _ | refine blk_drew ?_ | refine blk_alloc ?_ _)); exact BK352.out)) : gb360 ≠ gb352)); clear BK352; clear HR358_1; clear HB; have BK352 := n0_; have HR358_1 := n1_; have HB := n2_; have BK360 := n3_; have GW360 := n4_; have GE360 := n5_; have NB352_360 := n6_; have NB360_352 := n7_; clear n0_ n1_ n2_ n3_ n4_ n5_ n6_ n7_; clear hb hbox hg; have hnb47 := NB360_352.out; have hnc47 := NB352_360.out; have hcz48_0 : w46.cell? ⟨gb360, 0, none⟩ = some (.int .i64 0) := (blk_cell BK360.out 0).trans rfl; have hcz48_1 : w46.cell? ⟨gb360, 1, none⟩ = some (.string (⟨#[]⟩ : ByteArray)) := (blk_cell BK360.out 1).trans rfl; have hcz48_2 : w46.cell? ⟨gb360, 2, none⟩ = some (.string (⟨#[]⟩ : ByteArray)) := (blk_cell BK360.out 2).trans rfl; have hcz48_3 : w46.cell? ⟨gb360, 3, none⟩ = some (.string (⟨#[]⟩ : ByteArray)) := (blk_cell BK360.out 3).trans rfl; have hcz48_4 : w46.cell? ⟨gb360, 4, none⟩ = some (.string (⟨#[]⟩ : ByteArray)) := (blk_cell BK360.out 4).trans rfl; have hcz48_5 : w46.cell? ⟨gb360, 5, none⟩ = some (.int .i64 0) := (blk_cell BK360.out 5).trans rfl; have hcz48_6 : w46.cell? ⟨gb360, 6, none⟩ = some (.int .i64 0) := (blk_cell BK360.out 6).trans rfl; have hcz48_7 : w46.cell? ⟨gb360, 7, none⟩ = some (.int .i64 0) := (blk_cell BK360.out 7).trans rfl; have hfz48_0 := blk_frozen BK360.out 0; have hfz48_1 := blk_frozen BK360.out 1; have hfz48_2 := blk_frozen BK360.out 2; have hfz48_3 := blk_frozen BK360.out 3; have hfz48_4 := blk_frozen BK360.out 4; have hfz48_5 := blk_frozen BK360.out 5; have hfz48_6 := blk_frozen BK360.out 6; have hfz48_7 := blk_frozen BK360.out 7; have hcz49_0 : w46.cell? ⟨gb352, 0, none⟩ = some (.slice (some ad359) l0_0.length c0_0) := (blk_cell BK352.out 0).trans rfl; have hcz49_1 : w46.cell? ⟨gb352, 1, none⟩ = some (.slice A0_1 l0_1.length c0_1) := (blk_cell BK352.out 1).trans rfl; have hcz49_2 : w46.cell? ⟨gb352, 2, none⟩ = some (.slice A0_2 l0_2.length c0_2) := (blk_cell BK352.out 2).trans rfl; have hcz49_3 : w46.cell? ⟨gb352, 3, none⟩ = some (.int .i64 a0_3) := (blk_cell BK352.out 3).trans rfl; have hfz49_0 := blk_frozen BK352.out 0; have hfz49_1 := blk_frozen BK352.out 1; have hfz49_2 := blk_frozen BK352.out 2; have hfz49_3 := blk_frozen BK352.out 3))
                                    go_ret
                                    exact ⟨by first | rfl | (simp [errW_none, errW_some] <;> rfl) | (simp only [← hji27]; first | rfl | (simp [errW_none, errW_some] <;> rfl)) | (simp [*, errW_none, errW_some] <;> rfl), by repeat (first | (with_reducible first | exact HB.out | apply below_alloc | apply pw_below_drewN | apply below_drew1 | refine below_set ?_ GE352.out | refine below_set ?_ GE360.out) | exact HB.out)⟩
                                · rw [if_neg c38] at H
                                  have c38b0 : decide (((rd_T38 l0_0 ((rd_T33 t355 (ji27)).f0)).f6) < 0) = false := decide_eq_false c38
                                  clear c38
                                  by_cases c50 : ((rd_T38 l0_0 ((rd_T33 t355 (ji27)).f0)).f6) ≥ (l0_0.length : Int)
                                  · rw [if_pos c50] at H
                                    have c50b0 : decide ((l0_0.length : Int) ≤ ((rd_T38 l0_0 ((rd_T33 t355 (ji27)).f0)).f6)) = true := decide_eq_true c50
                                    clear c50
                                    by_cases c51 : t353 = true
                                    · subst c51
                                      have H1 : (some true) = some r := by rw [if_pos rfl] at H; exact H
                                      clear H
                                      have H := H1
                                      clear H1
                                      obtain rfl := Option.some.inj H
                                      have hcz52_0 : wc.cell? ⟨gb352, 0, none⟩ = some (.slice A0_0 l0_0.length c0_0) := (blk_cell BK352.out 0).trans rfl
                                      have hcz52_1 : wc.cell? ⟨gb352, 1, none⟩ = some (.slice A0_1 l0_1.length c0_1) := (blk_cell BK352.out 1).trans rfl
                                      have hcz52_2 : wc.cell? ⟨gb352, 2, none⟩ = some (.slice A0_2 l0_2.length c0_2) := (blk_cell BK352.out 2).trans rfl
                                      have hcz52_3 : wc.cell? ⟨gb352, 3, none⟩ = some (.int .i64 a0_3) := (blk_cell BK352.out 3).trans rfl
                                      have hfz52_0 := blk_frozen BK352.out 0
                                      have hfz52_1 := blk_frozen BK352.out 1
                                      have hfz52_2 := blk_frozen BK352.out 2
                                      have hfz52_3 := blk_frozen BK352.out 3
                                      have p359 : 0 ≤ (((rd_T33 t355 (ji27)).f0) : Int) := of_decide_eq_true (by first | (with_reducible assumption) | assumption)
                                      have q359 : ((rd_T33 t355 (ji27)).f0) < (l0_0.length : Int) := of_decide_eq_true (by first | (with_reducible assumption) | assumption)
                                      obtain ⟨ad359, e359, hx359_0, hx359_1, hx359_2, hx359_3, hx359_4, hx359_5, hx359_6, hx359_7⟩ := at_T38 HR0_0.out ((rd_T33 t355 (ji27)).f0) p359 q359
                                      cases e359
                                      replace hx359_0 := (HB.out.cell (World.block_lt_of_cell? w _ hx359_0)).trans hx359_0
                                      replace hx359_1 := (HB.out.cell (World.block_lt_of_cell? w _ hx359_1)).trans hx359_1
                                      replace hx359_2 := (HB.out.cell (World.block_lt_of_cell? w _ hx359_2)).trans hx359_2
                                      replace hx359_3 := (HB.out.cell (World.block_lt_of_cell? w _ hx359_3)).trans hx359_3
                                      replace hx359_4 := (HB.out.cell (World.block_lt_of_cell? w _ hx359_4)).trans hx359_4
                                      replace hx359_5 := (HB.out.cell (World.block_lt_of_cell? w _ hx359_5)).trans hx359_5
                                      replace hx359_6 := (HB.out.cell (World.block_lt_of_cell? w _ hx359_6)).trans hx359_6
                                      replace hx359_7 := (HB.out.cell (World.block_lt_of_cell? w _ hx359_7)).trans hx359_7
                                      replace p359 := eq_true p359
                                      replace q359 := eq_true q359
                                      go_wp2_with (first | ((with_reducible refine gate_dst (N := 6) rfl ?_); (try (refine gate_guard (by rfl) ?_; dsimp only)); refine box_event ?hg (N := 6) ?hd (cs := #[.int .i64 0, .string (⟨#[]⟩ : ByteArray), .string (⟨#[]⟩ : ByteArray), .string (⟨#[]⟩ : ByteArray), .string (⟨#[]⟩ : ByteArray), .int .i64 0, .int .i64 0, .int .i64 0]) (t := 38) ?hr ?_; (case hd => rfl); (case hg => rfl); (case hr => first | (go_simp; done) | (go_simp; rfl)); intro gb360 hg w53 hbox hb; have n0_ := Aside0.mk (blk_below (g := gb352) (o := .cells #[.slice (some ad359) l0_0.length c0_0, .slice A0_1 l0_1.length c0_1, .slice A0_2 l0_2.length c0_2, .int .i64 a0_3] 26 (0, 0)) (by (with_reducible repeat (first | refine blk_drewN ?_ _ | refine blk_drew ?_ | refine blk_alloc ?_ _)); exact BK352.out) hb); have n1_ := Aside0.mk (Kd.C_below (by repeat (first | (with_reducible exact HR358_1.out) | (with_reducible refine Kd.C_alloc ?_ _) | (with_reducible refine Kd.C_drewN ?_ _) | (with_reducible refine Kd.C_drew ?_) | exact HR358_1.out)) hb); have n2_ := Aside0.mk (below_step (by repeat (first | (with_reducible first | exact HB.out | apply below_alloc | apply pw_below_drewN | apply below_drew1 | refine below_set ?_ GE352.out) | exact HB.out)) hb); have n3_ := Aside0.mk (hbox); have n4_ := Aside0.mk ((by rw [hg]; exact (below_size (by repeat (first | (with_reducible first | exact HB.out | apply below_alloc | apply pw_below_drewN | apply below_drew1 | refine below_set ?_ GE352.out) | exact HB.out))) : w.heap.size ≤ gb360)); have n5_ := Aside0.mk ((by rw [hg]; exact (below_size (by repeat (first | (with_reducible first | exact HB.out | apply below_alloc | apply pw_below_drewN | apply below_drew1 | refine below_set ?_ GE352.out) | exact HB.out))) : w.heap.size ≤ gb360)); have n6_ := Aside0.mk ((by rw [hg]; exact Nat.ne_of_lt (blk_lt (g := gb352) (o := .cells #[.slice (some ad359) l0_0.length c0_0, .slice A0_1 l0_1.length c0_1, .slice A0_2 l0_2.length c0_2, .int .i64 a0_3] 26 (0, 0)) (by (with_reducible repeat (first | refine blk_drewN ?_ _ | refine blk_drew ?_ | refine blk_alloc ?_ _)); exact BK352.out)) : gb352 ≠ gb360)); have n7_ := Aside0.mk ((by rw [hg]; exact Nat.ne_of_gt (blk_lt (g := gb352) (o := .cells #[.slice (some ad359) l0_0.length c0_0, .slice A0_1 l0_1.length c0_1, .slice A0_2 l0_2.length c0_2, .int .i64 a0_3] 26 (0, 0)) (by (with_reducible repeat (first | refine blk_drewN ?_ _ | refine blk_drew ?_ | refine blk_alloc ?_ _)); exact BK352.out)) : gb360 ≠ gb352)); clear BK352; clear HR358_1; clear HB; have BK352 := n0_; have HR358_1 := n1_; have HB := n2_; have BK360 := n3_; have GW360 := n4_; have GE360 := n5_; have NB352_360 := n6_; have NB360_352 := n7_; clear n0_ n1_ n2_ n3_ n4_ n5_ n6_ n7_; clear hb hbox hg; have hnb54 := NB360_352.out; have hnc54 := NB352_360.out; have hcz55_0 : w53.cell? ⟨gb360, 0, none⟩ = some (.int .i64 0) := (blk_cell BK360.out 0).trans rfl; have hcz55_1 : w53.cell? ⟨gb360, 1, none⟩ = some (.string (⟨#[]⟩ : ByteArray)) := (blk_cell BK360.out 1).trans rfl; have hcz55_2 : w53.cell? ⟨gb360, 2, none⟩ = some (.string (⟨#[]⟩ : ByteArray)) := (blk_cell BK360.out 2).trans rfl; have hcz55_3 : w53.cell? ⟨gb360, 3, none⟩ = some (.string (⟨#[]⟩ : ByteArray)) := (blk_cell BK360.out 3).trans rfl; have hcz55_4 : w53.cell? ⟨gb360, 4, none⟩ = some (.string (⟨#[]⟩ : ByteArray)) := (blk_cell BK360.out 4).trans rfl; have hcz55_5 : w53.cell? ⟨gb360, 5, none⟩ = some (.int .i64 0) := (blk_cell BK360.out 5).trans rfl; have hcz55_6 : w53.cell? ⟨gb360, 6, none⟩ = some (.int .i64 0) := (blk_cell BK360.out 6).trans rfl; have hcz55_7 : w53.cell? ⟨gb360, 7, none⟩ = some (.int .i64 0) := (blk_cell BK360.out 7).trans rfl; have hfz55_0 := blk_frozen BK360.out 0; have hfz55_1 := blk_frozen BK360.out 1; have hfz55_2 := blk_frozen BK360.out 2; have hfz55_3 := blk_frozen BK360.out 3; have hfz55_4 := blk_frozen BK360.out 4; have hfz55_5 := blk_frozen BK360.out 5; have hfz55_6 := blk_frozen BK360.out 6; have hfz55_7 := blk_frozen BK360.out 7; have hcz56_0 : w53.cell? ⟨gb352, 0, none⟩ = some (.slice (some ad359) l0_0.length c0_0) := (blk_cell BK352.out 0).trans rfl; have hcz56_1 : w53.cell? ⟨gb352, 1, none⟩ = some (.slice A0_1 l0_1.length c0_1) := (blk_cell BK352.out 1).trans rfl; have hcz56_2 : w53.cell? ⟨gb352, 2, none⟩ = some (.slice A0_2 l0_2.length c0_2) := (blk_cell BK352.out 2).trans rfl; have hcz56_3 : w53.cell? ⟨gb352, 3, none⟩ = some (.int .i64 a0_3) := (blk_cell BK352.out 3).trans rfl; have hfz56_0 := blk_frozen BK352.out 0; have hfz56_1 := blk_frozen BK352.out 1; have hfz56_2 := blk_frozen BK352.out 2; have hfz56_3 := blk_frozen BK352.out 3))
                                      go_ret
                                      exact ⟨by first | rfl | (simp [errW_none, errW_some] <;> rfl) | (simp only [← hji27]; first | rfl | (simp [errW_none, errW_some] <;> rfl)) | (simp [*, errW_none, errW_some] <;> rfl), by repeat (first | (with_reducible first | exact HB.out | apply below_alloc | apply pw_below_drewN | apply below_drew1 | refine below_set ?_ GE352.out | refine below_set ?_ GE360.out) | exact HB.out)⟩
                                    · replace c51 := Bool.eq_false_iff.mpr c51
                                      subst c51
                                      have H1 : (some false) = some r := by rw [if_neg (show ¬ (false = true) by decide)] at H; exact H
                                      clear H
                                      have H := H1
                                      clear H1
                                      obtain rfl := Option.some.inj H
                                      have hcz57_0 : wc.cell? ⟨gb352, 0, none⟩ = some (.slice A0_0 l0_0.length c0_0) := (blk_cell BK352.out 0).trans rfl
                                      have hcz57_1 : wc.cell? ⟨gb352, 1, none⟩ = some (.slice A0_1 l0_1.length c0_1) := (blk_cell BK352.out 1).trans rfl
                                      have hcz57_2 : wc.cell? ⟨gb352, 2, none⟩ = some (.slice A0_2 l0_2.length c0_2) := (blk_cell BK352.out 2).trans rfl
                                      have hcz57_3 : wc.cell? ⟨gb352, 3, none⟩ = some (.int .i64 a0_3) := (blk_cell BK352.out 3).trans rfl
                                      have hfz57_0 := blk_frozen BK352.out 0
                                      have hfz57_1 := blk_frozen BK352.out 1
                                      have hfz57_2 := blk_frozen BK352.out 2
                                      have hfz57_3 := blk_frozen BK352.out 3
                                      have p359 : 0 ≤ (((rd_T33 t355 (ji27)).f0) : Int) := of_decide_eq_true (by first | (with_reducible assumption) | assumption)
                                      have q359 : ((rd_T33 t355 (ji27)).f0) < (l0_0.length : Int) := of_decide_eq_true (by first | (with_reducible assumption) | assumption)
                                      obtain ⟨ad359, e359, hx359_0, hx359_1, hx359_2, hx359_3, hx359_4, hx359_5, hx359_6, hx359_7⟩ := at_T38 HR0_0.out ((rd_T33 t355 (ji27)).f0) p359 q359
                                      cases e359
                                      replace hx359_0 := (HB.out.cell (World.block_lt_of_cell? w _ hx359_0)).trans hx359_0
                                      replace hx359_1 := (HB.out.cell (World.block_lt_of_cell? w _ hx359_1)).trans hx359_1
                                      replace hx359_2 := (HB.out.cell (World.block_lt_of_cell? w _ hx359_2)).trans hx359_2
                                      replace hx359_3 := (HB.out.cell (World.block_lt_of_cell? w _ hx359_3)).trans hx359_3
                                      replace hx359_4 := (HB.out.cell (World.block_lt_of_cell? w _ hx359_4)).trans hx359_4
                                      replace hx359_5 := (HB.out.cell (World.block_lt_of_cell? w _ hx359_5)).trans hx359_5
                                      replace hx359_6 := (HB.out.cell (World.block_lt_of_cell? w _ hx359_6)).trans hx359_6
                                      replace hx359_7 := (HB.out.cell (World.block_lt_of_cell? w _ hx359_7)).trans hx359_7
                                      replace p359 := eq_true p359
                                      replace q359 := eq_true q359
                                      go_wp2_with (first | ((with_reducible refine gate_dst (N := 6) rfl ?_); (try (refine gate_guard (by rfl) ?_; dsimp only)); refine box_event ?hg (N := 6) ?hd (cs := #[.int .i64 0, .string (⟨#[]⟩ : ByteArray), .string (⟨#[]⟩ : ByteArray), .string (⟨#[]⟩ : ByteArray), .string (⟨#[]⟩ : ByteArray), .int .i64 0, .int .i64 0, .int .i64 0]) (t := 38) ?hr ?_; (case hd => rfl); (case hg => rfl); (case hr => first | (go_simp; done) | (go_simp; rfl)); intro gb360 hg w58 hbox hb; have n0_ := Aside0.mk (blk_below (g := gb352) (o := .cells #[.slice (some ad359) l0_0.length c0_0, .slice A0_1 l0_1.length c0_1, .slice A0_2 l0_2.length c0_2, .int .i64 a0_3] 26 (0, 0)) (by (with_reducible repeat (first | refine blk_drewN ?_ _ | refine blk_drew ?_ | refine blk_alloc ?_ _)); exact BK352.out) hb); have n1_ := Aside0.mk (Kd.C_below (by repeat (first | (with_reducible exact HR358_1.out) | (with_reducible refine Kd.C_alloc ?_ _) | (with_reducible refine Kd.C_drewN ?_ _) | (with_reducible refine Kd.C_drew ?_) | exact HR358_1.out)) hb); have n2_ := Aside0.mk (below_step (by repeat (first | (with_reducible first | exact HB.out | apply below_alloc | apply pw_below_drewN | apply below_drew1 | refine below_set ?_ GE352.out) | exact HB.out)) hb); have n3_ := Aside0.mk (hbox); have n4_ := Aside0.mk ((by rw [hg]; exact (below_size (by repeat (first | (with_reducible first | exact HB.out | apply below_alloc | apply pw_below_drewN | apply below_drew1 | refine below_set ?_ GE352.out) | exact HB.out))) : w.heap.size ≤ gb360)); have n5_ := Aside0.mk ((by rw [hg]; exact (below_size (by repeat (first | (with_reducible first | exact HB.out | apply below_alloc | apply pw_below_drewN | apply below_drew1 | refine below_set ?_ GE352.out) | exact HB.out))) : w.heap.size ≤ gb360)); have n6_ := Aside0.mk ((by rw [hg]; exact Nat.ne_of_lt (blk_lt (g := gb352) (o := .cells #[.slice (some ad359) l0_0.length c0_0, .slice A0_1 l0_1.length c0_1, .slice A0_2 l0_2.length c0_2, .int .i64 a0_3] 26 (0, 0)) (by (with_reducible repeat (first | refine blk_drewN ?_ _ | refine blk_drew ?_ | refine blk_alloc ?_ _)); exact BK352.out)) : gb352 ≠ gb360)); have n7_ := Aside0.mk ((by rw [hg]; exact Nat.ne_of_gt (blk_lt (g := gb352) (o := .cells #[.slice (some ad359) l0_0.length c0_0, .slice A0_1 l0_1.length c0_1, .slice A0_2 l0_2.length c0_2, .int .i64 a0_3] 26 (0, 0)) (by (with_reducible repeat (first | refine blk_drewN ?_ _ | refine blk_drew ?_ | refine blk_alloc ?_ _)); exact BK352.out)) : gb360 ≠ gb352)); clear BK352; clear HR358_1; clear HB; have BK352 := n0_; have HR358_1 := n1_; have HB := n2_; have BK360 := n3_; have GW360 := n4_; have GE360 := n5_; have NB352_360 := n6_; have NB360_352 := n7_; clear n0_ n1_ n2_ n3_ n4_ n5_ n6_ n7_; clear hb hbox hg; have hnb59 := NB360_352.out; have hnc59 := NB352_360.out; have hcz60_0 : w58.cell? ⟨gb360, 0, none⟩ = some (.int .i64 0) := (blk_cell BK360.out 0).trans rfl; have hcz60_1 : w58.cell? ⟨gb360, 1, none⟩ = some (.string (⟨#[]⟩ : ByteArray)) := (blk_cell BK360.out 1).trans rfl; have hcz60_2 : w58.cell? ⟨gb360, 2, none⟩ = some (.string (⟨#[]⟩ : ByteArray)) := (blk_cell BK360.out 2).trans rfl; have hcz60_3 : w58.cell? ⟨gb360, 3, none⟩ = some (.string (⟨#[]⟩ : ByteArray)) := (blk_cell BK360.out 3).trans rfl; have hcz60_4 : w58.cell? ⟨gb360, 4, none⟩ = some (.string (⟨#[]⟩ : ByteArray)) := (blk_cell BK360.out 4).trans rfl; have hcz60_5 : w58.cell? ⟨gb360, 5, none⟩ = some (.int .i64 0) := (blk_cell BK360.out 5).trans rfl; have hcz60_6 : w58.cell? ⟨gb360, 6, none⟩ = some (.int .i64 0) := (blk_cell BK360.out 6).trans rfl; have hcz60_7 : w58.cell? ⟨gb360, 7, none⟩ = some (.int .i64 0) := (blk_cell BK360.out 7).trans rfl; have hfz60_0 := blk_frozen BK360.out 0; have hfz60_1 := blk_frozen BK360.out 1; have hfz60_2 := blk_frozen BK360.out 2; have hfz60_3 := blk_frozen BK360.out 3; have hfz60_4 := blk_frozen BK360.out 4; have hfz60_5 := blk_frozen BK360.out 5; have hfz60_6 := blk_frozen BK360.out 6; have hfz60_7 := blk_frozen BK360.out 7; have hcz61_0 : w58.cell? ⟨gb352, 0, none⟩ = some (.slice (some ad359) l0_0.length c0_0) := (blk_cell BK352.out 0).trans rfl; have hcz61_1 : w58.cell? ⟨gb352, 1, none⟩ = some (.slice A0_1 l0_1.length c0_1) := (blk_cell BK352.out 1).trans rfl; have hcz61_2 : w58.cell? ⟨gb352, 2, none⟩ = some (.slice A0_2 l0_2.length c0_2) := (blk_cell BK352.out 2).trans rfl; have hcz61_3 : w58.cell? ⟨gb352, 3, none⟩ = some (.int .i64 a0_3) := (blk_cell BK352.out 3).trans rfl; have hfz61_0 := blk_frozen BK352.out 0; have hfz61_1 := blk_frozen BK352.out 1; have hfz61_2 := blk_frozen BK352.out 2; have hfz61_3 := blk_frozen BK352.out 3))
                                      go_ret
                                      exact ⟨by first | rfl | (simp [errW_none, errW_some] <;> rfl) | (simp only [← hji27]; first | rfl | (simp [errW_none, errW_some] <;> rfl)) | (simp [*, errW_none, errW_some] <;> rfl), by repeat (first | (with_reducible first | exact HB.out | apply below_alloc | apply pw_below_drewN | apply below_drew1 | refine below_set ?_ GE352.out | refine below_set ?_ GE360.out) | exact HB.out)⟩
                                  · rw [if_neg c50] at H
                                    have c50b0 : decide ((l0_0.length : Int) ≤ ((rd_T38 l0_0 ((rd_T33 t355 (ji27)).f0)).f6)) = false := decide_eq_false c50
                                    clear c50
                                    by_cases c62 : ((rd_T38 l0_0 ((rd_T33 t355 (ji27)).f0)).f7) < 0
                                    · rw [if_pos c62] at H
                                      have c62b0 : decide (((rd_T38 l0_0 ((rd_T33 t355 (ji27)).f0)).f7) < 0) = true := decide_eq_true c62
                                      clear c62
                                      by_cases c63 : t353 = true
                                      · subst c63
                                        have H1 : (some true) = some r := by rw [if_pos rfl] at H; exact H
                                        clear H
                                        have H := H1
                                        clear H1
                                        obtain rfl := Option.some.inj H
                                        have hcz64_0 : wc.cell? ⟨gb352, 0, none⟩ = some (.slice A0_0 l0_0.length c0_0) := (blk_cell BK352.out 0).trans rfl
                                        have hcz64_1 : wc.cell? ⟨gb352, 1, none⟩ = some (.slice A0_1 l0_1.length c0_1) := (blk_cell BK352.out 1).trans rfl
                                        have hcz64_2 : wc.cell? ⟨gb352, 2, none⟩ = some (.slice A0_2 l0_2.length c0_2) := (blk_cell BK352.out 2).trans rfl
                                        have hcz64_3 : wc.cell? ⟨gb352, 3, none⟩ = some (.int .i64 a0_3) := (blk_cell BK352.out 3).trans rfl
                                        have hfz64_0 := blk_frozen BK352.out 0
                                        have hfz64_1 := blk_frozen BK352.out 1
                                        have hfz64_2 := blk_frozen BK352.out 2
                                        have hfz64_3 := blk_frozen BK352.out 3
                                        have p359 : 0 ≤ (((rd_T33 t355 (ji27)).f0) : Int) := of_decide_eq_true (by first | (with_reducible assumption) | assumption)
                                        have q359 : ((rd_T33 t355 (ji27)).f0) < (l0_0.length : Int) := of_decide_eq_true (by first | (with_reducible assumption) | assumption)
                                        obtain ⟨ad359, e359, hx359_0, hx359_1, hx359_2, hx359_3, hx359_4, hx359_5, hx359_6, hx359_7⟩ := at_T38 HR0_0.out ((rd_T33 t355 (ji27)).f0) p359 q359
                                        cases e359
                                        replace hx359_0 := (HB.out.cell (World.block_lt_of_cell? w _ hx359_0)).trans hx359_0
                                        replace hx359_1 := (HB.out.cell (World.block_lt_of_cell? w _ hx359_1)).trans hx359_1
                                        replace hx359_2 := (HB.out.cell (World.block_lt_of_cell? w _ hx359_2)).trans hx359_2
                                        replace hx359_3 := (HB.out.cell (World.block_lt_of_cell? w _ hx359_3)).trans hx359_3
                                        replace hx359_4 := (HB.out.cell (World.block_lt_of_cell? w _ hx359_4)).trans hx359_4
                                        replace hx359_5 := (HB.out.cell (World.block_lt_of_cell? w _ hx359_5)).trans hx359_5
                                        replace hx359_6 := (HB.out.cell (World.block_lt_of_cell? w _ hx359_6)).trans hx359_6
                                        replace hx359_7 := (HB.out.cell (World.block_lt_of_cell? w _ hx359_7)).trans hx359_7
                                        replace p359 := eq_true p359
                                        replace q359 := eq_true q359
                                        go_wp2_with (first | ((with_reducible refine gate_dst (N := 6) rfl ?_); (try (refine gate_guard (by rfl) ?_; dsimp only)); refine box_event ?hg (N := 6) ?hd (cs := #[.int .i64 0, .string (⟨#[]⟩ : ByteArray), .string (⟨#[]⟩ : ByteArray), .string (⟨#[]⟩ : ByteArray), .string (⟨#[]⟩ : ByteArray), .int .i64 0, .int .i64 0, .int .i64 0]) (t := 38) ?hr ?_; (case hd => rfl); (case hg => rfl); (case hr => first | (go_simp; done) | (go_simp; rfl)); intro gb360 hg w65 hbox hb; have n0_ := Aside0.mk (blk_below (g := gb352) (o := .cells #[.slice (some ad359) l0_0.length c0_0, .slice A0_1 l0_1.length c0_1, .slice A0_2 l0_2.length c0_2, .int .i64 a0_3] 26 (0, 0)) (by (with_reducible repeat (first | refine blk_drewN ?_ _ | refine blk_drew ?_ | refine blk_alloc ?_ _)); exact BK352.out) hb); have n1_ := Aside0.mk (Kd.C_below (by repeat (first | (with_reducible exact HR358_1.out) | (with_reducible refine Kd.C_alloc ?_ _) | (with_reducible refine Kd.C_drewN ?_ _) | (with_reducible refine Kd.C_drew ?_) | exact HR358_1.out)) hb); have n2_ := Aside0.mk (below_step (by repeat (first | (with_reducible first | exact HB.out | apply below_alloc | apply pw_below_drewN | apply below_drew1 | refine below_set ?_ GE352.out) | exact HB.out)) hb); have n3_ := Aside0.mk (hbox); have n4_ := Aside0.mk ((by rw [hg]; exact (below_size (by repeat (first | (with_reducible first | exact HB.out | apply below_alloc | apply pw_below_drewN | apply below_drew1 | refine below_set ?_ GE352.out) | exact HB.out))) : w.heap.size ≤ gb360)); have n5_ := Aside0.mk ((by rw [hg]; exact (below_size (by repeat (first | (with_reducible first | exact HB.out | apply below_alloc | apply pw_below_drewN | apply below_drew1 | refine below_set ?_ GE352.out) | exact HB.out))) : w.heap.size ≤ gb360)); have n6_ := Aside0.mk ((by rw [hg]; exact Nat.ne_of_lt (blk_lt (g := gb352) (o := .cells #[.slice (some ad359) l0_0.length c0_0, .slice A0_1 l0_1.length c0_1, .slice A0_2 l0_2.length c0_2, .int .i64 a0_3] 26 (0, 0)) (by (with_reducible repeat (first | refine blk_drewN ?_ _ | refine blk_drew ?_ | refine blk_alloc ?_ _)); exact BK352.out)) : gb352 ≠ gb360)); have n7_ := Aside0.mk ((by rw [hg]; exact Nat.ne_of_gt (blk_lt (g := gb352) (o := .cells #[.slice (some ad359) l0_0.length c0_0, .slice A0_1 l0_1.length c0_1, .slice A0_2 l0_2.length c0_2, .int .i64 a0_3] 26 (0, 0)) (by (with_reducible repeat (first | refine blk_drewN ?_ _ | refine blk_drew ?_ | refine blk_alloc ?_ _)); exact BK352.out)) : gb360 ≠ gb352)); clear BK352; clear HR358_1; clear HB; have BK352 := n0_; have HR358_1 := n1_; have HB := n2_; have BK360 := n3_; have GW360 := n4_; have GE360 := n5_; have NB352_360 := n6_; have NB360_352 := n7_; clear n0_ n1_ n2_ n3_ n4_ n5_ n6_ n7_; clear hb hbox hg; have hnb66 := NB360_352.out; have hnc66 := NB352_360.out; have hcz67_0 : w65.cell? ⟨gb360, 0, none⟩ = some (.int .i64 0) := (blk_cell BK360.out 0).trans rfl; have hcz67_1 : w65.cell? ⟨gb360, 1, none⟩ = some (.string (⟨#[]⟩ : ByteArray)) := (blk_cell BK360.out 1).trans rfl; have hcz67_2 : w65.cell? ⟨gb360, 2, none⟩ = some (.string (⟨#[]⟩ : ByteArray)) := (blk_cell BK360.out 2).trans rfl; have hcz67_3 : w65.cell? ⟨gb360, 3, none⟩ = some (.string (⟨#[]⟩ : ByteArray)) := (blk_cell BK360.out 3).trans rfl; have hcz67_4 : w65.cell? ⟨gb360, 4, none⟩ = some (.string (⟨#[]⟩ : ByteArray)) := (blk_cell BK360.out 4).trans rfl; have hcz67_5 : w65.cell? ⟨gb360, 5, none⟩ = some (.int .i64 0) := (blk_cell BK360.out 5).trans rfl; have hcz67_6 : w65.cell? ⟨gb360, 6, none⟩ = some (.int .i64 0) := (blk_cell BK360.out 6).trans rfl; have hcz67_7 : w65.cell? ⟨gb360, 7, none⟩ = some (.int .i64 0) := (blk_cell BK360.out 7).trans rfl; have hfz67_0 := blk_frozen BK360.out 0; have hfz67_1 := blk_frozen BK360.out 1; have hfz67_2 := blk_frozen BK360.out 2; have hfz67_3 := blk_frozen BK360.out 3; have hfz67_4 := blk_frozen BK360.out 4; have hfz67_5 := blk_frozen BK360.out 5; have hfz67_6 := blk_frozen BK360.out 6; have hfz67_7 := blk_frozen BK360.out 7; have hcz68_0 : w65.cell? ⟨gb352, 0, none⟩ = some (.slice (some ad359) l0_0.length c0_0) := (blk_cell BK352.out 0).trans rfl; have hcz68_1 : w65.cell? ⟨gb352, 1, none⟩ = some (.slice A0_1 l0_1.length c0_1) := (blk_cell BK352.out 1).trans rfl; have hcz68_2 : w65.cell? ⟨gb352, 2, none⟩ = some (.slice A0_2 l0_2.length c0_2) := (blk_cell BK352.out 2).trans rfl; have hcz68_3 : w65.cell? ⟨gb352, 3, none⟩ = some (.int .i64 a0_3) := (blk_cell BK352.out 3).trans rfl; have hfz68_0 := blk_frozen BK352.out 0; have hfz68_1 := blk_frozen BK352.out 1; have hfz68_2 := blk_frozen BK352.out 2; have hfz68_3 := blk_frozen BK352.out 3))
                                        go_ret
                                        exact ⟨by first | rfl | (simp [errW_none, errW_some] <;> rfl) | (simp only [← hji27]; first | rfl | (simp [errW_none, errW_some] <;> rfl)) | (simp [*, errW_none, errW_some] <;> rfl), by repeat (first | (with_reducible first | exact HB.out | apply below_alloc | apply pw_below_drewN | apply below_drew1 | refine below_set ?_ GE352.out | refine below_set ?_ GE360.out) | exact HB.out)⟩
                                      · replace c63 := Bool.eq_false_iff.mpr c63
                                        subst c63
                                        have H1 : (some false) = some r := by rw [if_neg (show ¬ (false = true) by decide)] at H; exact H
                                        clear H
                                        have H := H1
                                        clear H1
                                        obtain rfl := Option.some.inj H
                                        have hcz69_0 : wc.cell? ⟨gb352, 0, none⟩ = some (.slice A0_0 l0_0.length c0_0) := (blk_cell BK352.out 0).trans rfl
                                        have hcz69_1 : wc.cell? ⟨gb352, 1, none⟩ = some (.slice A0_1 l0_1.length c0_1) := (blk_cell BK352.out 1).trans rfl
                                        have hcz69_2 : wc.cell? ⟨gb352, 2, none⟩ = some (.slice A0_2 l0_2.length c0_2) := (blk_cell BK352.out 2).trans rfl
                                        have hcz69_3 : wc.cell? ⟨gb352, 3, none⟩ = some (.int .i64 a0_3) := (blk_cell BK352.out 3).trans rfl
                                        have hfz69_0 := blk_frozen BK352.out 0
                                        have hfz69_1 := blk_frozen BK352.out 1
                                        have hfz69_2 := blk_frozen BK352.out 2
                                        have hfz69_3 := blk_frozen BK352.out 3
                                        have p359 : 0 ≤ (((rd_T33 t355 (ji27)).f0) : Int) := of_decide_eq_true (by first | (with_reducible assumption) | assumption)
                                        have q359 : ((rd_T33 t355 (ji27)).f0) < (l0_0.length : Int) := of_decide_eq_true (by first | (with_reducible assumption) | assumption)
                                        obtain ⟨ad359, e359, hx359_0, hx359_1, hx359_2, hx359_3, hx359_4, hx359_5, hx359_6, hx359_7⟩ := at_T38 HR0_0.out ((rd_T33 t355 (ji27)).f0) p359 q359
                                        cases e359
                                        replace hx359_0 := (HB.out.cell (World.block_lt_of_cell? w _ hx359_0)).trans hx359_0
                                        replace hx359_1 := (HB.out.cell (World.block_lt_of_cell? w _ hx359_1)).trans hx359_1
                                        replace hx359_2 := (HB.out.cell (World.block_lt_of_cell? w _ hx359_2)).trans hx359_2
                                        replace hx359_3 := (HB.out.cell (World.block_lt_of_cell? w _ hx359_3)).trans hx359_3
                                        replace hx359_4 := (HB.out.cell (World.block_lt_of_cell? w _ hx359_4)).trans hx359_4
                                        replace hx359_5 := (HB.out.cell (World.block_lt_of_cell? w _ hx359_5)).trans hx359_5
                                        replace hx359_6 := (HB.out.cell (World.block_lt_of_cell? w _ hx359_6)).trans hx359_6
                                        replace hx359_7 := (HB.out.cell (World.block_lt_of_cell? w _ hx359_7)).trans hx359_7
                                        replace p359 := eq_true p359
                                        replace q359 := eq_true q359
                                        go_wp2_with (first | ((with_reducible refine gate_dst (N := 6) rfl ?_); (try (refine gate_guard (by rfl) ?_; dsimp only)); refine box_event ?hg (N := 6) ?hd (cs := #[.int .i64 0, .string (⟨#[]⟩ : ByteArray), .string (⟨#[]⟩ : ByteArray), .string (⟨#[]⟩ : ByteArray), .string (⟨#[]⟩ : ByteArray), .int .i64 0, .int .i64 0, .int .i64 0]) (t := 38) ?hr ?_; (case hd => rfl); (case hg => rfl); (case hr => first | (go_simp; done) | (go_simp; rfl)); intro gb360 hg w70 hbox hb; have n0_ := Aside0.mk (blk_below (g := gb352) (o := .cells #[.slice (some ad359) l0_0.length c0_0, .slice A0_1 l0_1.length c0_1, .slice A0_2 l0_2.length c0_2, .int .i64 a0_3] 26 (0, 0)) (by (with_reducible repeat (first | refine blk_drewN ?_ _ | refine blk_drew ?_ | refine blk_alloc ?_ _)); exact BK352.out) hb); have n1_ := Aside0.mk (Kd.C_below (by repeat (first | (with_reducible exact HR358_1.out) | (with_reducible refine Kd.C_alloc ?_ _) | (with_reducible refine Kd.C_drewN ?_ _) | (with_reducible refine Kd.C_drew ?_) | exact HR358_1.out)) hb); have n2_ := Aside0.mk (below_step (by repeat (first | (with_reducible first | exact HB.out | apply below_alloc | apply pw_below_drewN | apply below_drew1 | refine below_set ?_ GE352.out) | exact HB.out)) hb); have n3_ := Aside0.mk (hbox); have n4_ := Aside0.mk ((by rw [hg]; exact (below_size (by repeat (first | (with_reducible first | exact HB.out | apply below_alloc | apply pw_below_drewN | apply below_drew1 | refine below_set ?_ GE352.out) | exact HB.out))) : w.heap.size ≤ gb360)); have n5_ := Aside0.mk ((by rw [hg]; exact (below_size (by repeat (first | (with_reducible first | exact HB.out | apply below_alloc | apply pw_below_drewN | apply below_drew1 | refine below_set ?_ GE352.out) | exact HB.out))) : w.heap.size ≤ gb360)); have n6_ := Aside0.mk ((by rw [hg]; exact Nat.ne_of_lt (blk_lt (g := gb352) (o := .cells #[.slice (some ad359) l0_0.length c0_0, .slice A0_1 l0_1.length c0_1, .slice A0_2 l0_2.length c0_2, .int .i64 a0_3] 26 (0, 0)) (by (with_reducible repeat (first | refine blk_drewN ?_ _ | refine blk_drew ?_ | refine blk_alloc ?_ _)); exact BK352.out)) : gb352 ≠ gb360)); have n7_ := Aside0.mk ((by rw [hg]; exact Nat.ne_of_gt (blk_lt (g := gb352) (o := .cells #[.slice (some ad359) l0_0.length c0_0, .slice A0_1 l0_1.length c0_1, .slice A0_2 l0_2.length c0_2, .int .i64 a0_3] 26 (0, 0)) (by (with_reducible repeat (first | refine blk_drewN ?_ _ | refine blk_drew ?_ | refine blk_alloc ?_ _)); exact BK352.out)) : gb360 ≠ gb352)); clear BK352; clear HR358_1; clear HB; have BK352 := n0_; have HR358_1 := n1_; have HB := n2_; have BK360 := n3_; have GW360 := n4_; have GE360 := n5_; have NB352_360 := n6_; have NB360_352 := n7_; clear n0_ n1_ n2_ n3_ n4_ n5_ n6_ n7_; clear hb hbox hg; have hnb71 := NB360_352.out; have hnc71 := NB352_360.out; have hcz72_0 : w70.cell? ⟨gb360, 0, none⟩ = some (.int .i64 0) := (blk_cell BK360.out 0).trans rfl; have hcz72_1 : w70.cell? ⟨gb360, 1, none⟩ = some (.string (⟨#[]⟩ : ByteArray)) := (blk_cell BK360.out 1).trans rfl; have hcz72_2 : w70.cell? ⟨gb360, 2, none⟩ = some (.string (⟨#[]⟩ : ByteArray)) := (blk_cell BK360.out 2).trans rfl; have hcz72_3 : w70.cell? ⟨gb360, 3, none⟩ = some (.string (⟨#[]⟩ : ByteArray)) := (blk_cell BK360.out 3).trans rfl; have hcz72_4 : w70.cell? ⟨gb360, 4, none⟩ = some (.string (⟨#[]⟩ : ByteArray)) := (blk_cell BK360.out 4).trans rfl; have hcz72_5 : w70.cell? ⟨gb360, 5, none⟩ = some (.int .i64 0) := (blk_cell BK360.out 5).trans rfl; have hcz72_6 : w70.cell? ⟨gb360, 6, none⟩ = some (.int .i64 0) := (blk_cell BK360.out 6).trans rfl; have hcz72_7 : w70.cell? ⟨gb360, 7, none⟩ = some (.int .i64 0) := (blk_cell BK360.out 7).trans rfl; have hfz72_0 := blk_frozen BK360.out 0; have hfz72_1 := blk_frozen BK360.out 1; have hfz72_2 := blk_frozen BK360.out 2; have hfz72_3 := blk_frozen BK360.out 3; have hfz72_4 := blk_frozen BK360.out 4; have hfz72_5 := blk_frozen BK360.out 5; have hfz72_6 := blk_frozen BK360.out 6; have hfz72_7 := blk_frozen BK360.out 7; have hcz73_0 : w70.cell? ⟨gb352, 0, none⟩ = some (.slice (some ad359) l0_0.length c0_0) := (blk_cell BK352.out 0).trans rfl; have hcz73_1 : w70.cell? ⟨gb352, 1, none⟩ = some (.slice A0_1 l0_1.length c0_1) := (blk_cell BK352.out 1).trans rfl; have hcz73_2 : w70.cell? ⟨gb352, 2, none⟩ = some (.slice A0_2 l0_2.length c0_2) := (blk_cell BK352.out 2).trans rfl; have hcz73_3 : w70.cell? ⟨gb352, 3, none⟩ = some (.int .i64 a0_3) := (blk_cell BK352.out 3).trans rfl; have hfz73_0 := blk_frozen BK352.out 0; have hfz73_1 := blk_frozen BK352.out 1; have hfz73_2 := blk_frozen BK352.out 2; have hfz73_3 := blk_frozen BK352.out 3))
                                        go_ret
                                        exact ⟨by first | rfl | (simp [errW_none, errW_some] <;> rfl) | (simp only [← hji27]; first | rfl | (simp [errW_none, errW_some] <;> rfl)) | (simp [*, errW_none, errW_some] <;> rfl), by repeat (first | (with_reducible first | exact HB.out | apply below_alloc | apply pw_below_drewN | apply below_drew1 | refine below_set ?_ GE352.out | refine below_set ?_ GE360.out) | exact HB.out)⟩
                                    · rw [if_neg c62] at H
                                      have c62b0 : decide (((rd_T38 l0_0 ((rd_T33 t355 (ji27)).f0)).f7) < 0) = false := decide_eq_false c62
                                      clear c62
                                      by_cases c74 : t353 = true
                                      · subst c74
                                        have H1 : (if ((rd_T38 l0_0 ((rd_T33 t355 (ji27)).f0)).f7) ≥ (l0_0.length : Int) then (some true) else (some (((rd_T38 l0_0 ((rd_T33 t355 (ji27)).f0)).f0) == 9))) = some r := by rw [if_pos rfl] at H; exact H
                                        clear H
                                        have H := H1
                                        clear H1
                                        by_cases c75 : ((rd_T38 l0_0 ((rd_T33 t355 (ji27)).f0)).f7) ≥ (l0_0.length : Int)
                                        · rw [if_pos c75] at H
                                          have c75b0 : decide ((l0_0.length : Int) ≤ ((rd_T38 l0_0 ((rd_T33 t355 (ji27)).f0)).f7)) = true := decide_eq_true c75
                                          clear c75
                                          obtain rfl := Option.some.inj H
                                          have hcz76_0 : wc.cell? ⟨gb352, 0, none⟩ = some (.slice A0_0 l0_0.length c0_0) := (blk_cell BK352.out 0).trans rfl
                                          have hcz76_1 : wc.cell? ⟨gb352, 1, none⟩ = some (.slice A0_1 l0_1.length c0_1) := (blk_cell BK352.out 1).trans rfl
                                          have hcz76_2 : wc.cell? ⟨gb352, 2, none⟩ = some (.slice A0_2 l0_2.length c0_2) := (blk_cell BK352.out 2).trans rfl
                                          have hcz76_3 : wc.cell? ⟨gb352, 3, none⟩ = some (.int .i64 a0_3) := (blk_cell BK352.out 3).trans rfl
                                          have hfz76_0 := blk_frozen BK352.out 0
                                          have hfz76_1 := blk_frozen BK352.out 1
                                          have hfz76_2 := blk_frozen BK352.out 2
                                          have hfz76_3 := blk_frozen BK352.out 3
                                          have p359 : 0 ≤ (((rd_T33 t355 (ji27)).f0) : Int) := of_decide_eq_true (by first | (with_reducible assumption) | assumption)
                                          have q359 : ((rd_T33 t355 (ji27)).f0) < (l0_0.length : Int) := of_decide_eq_true (by first | (with_reducible assumption) | assumption)
                                          obtain ⟨ad359, e359, hx359_0, hx359_1, hx359_2, hx359_3, hx359_4, hx359_5, hx359_6, hx359_7⟩ := at_T38 HR0_0.out ((rd_T33 t355 (ji27)).f0) p359 q359
                                          cases e359
                                          replace hx359_0 := (HB.out.cell (World.block_lt_of_cell? w _ hx359_0)).trans hx359_0
                                          replace hx359_1 := (HB.out.cell (World.block_lt_of_cell? w _ hx359_1)).trans hx359_1
                                          replace hx359_2 := (HB.out.cell (World.block_lt_of_cell? w _ hx359_2)).trans hx359_2
                                          replace hx359_3 := (HB.out.cell (World.block_lt_of_cell? w _ hx359_3)).trans hx359_3
                                          replace hx359_4 := (HB.out.cell (World.block_lt_of_cell? w _ hx359_4)).trans hx359_4
                                          replace hx359_5 := (HB.out.cell (World.block_lt_of_cell? w _ hx359_5)).trans hx359_5
                                          replace hx359_6 := (HB.out.cell (World.block_lt_of_cell? w _ hx359_6)).trans hx359_6
                                          replace hx359_7 := (HB.out.cell (World.block_lt_of_cell? w _ hx359_7)).trans hx359_7
                                          replace p359 := eq_true p359
                                          replace q359 := eq_true q359
                                          go_wp2_with (first | ((with_reducible refine gate_dst (N := 6) rfl ?_); (try (refine gate_guard (by rfl) ?_; dsimp only)); refine box_event ?hg (N := 6) ?hd (cs := #[.int .i64 0, .string (⟨#[]⟩ : ByteArray), .string (⟨#[]⟩ : ByteArray), .string (⟨#[]⟩ : ByteArray), .string (⟨#[]⟩ : ByteArray), .int .i64 0, .int .i64 0, .int .i64 0]) (t := 38) ?hr ?_; (case hd => rfl); (case hg => rfl); (case hr => first | (go_simp; done) | (go_simp; rfl)); intro gb360 hg w77 hbox hb; have n0_ := Aside0.mk (blk_below (g := gb352) (o := .cells #[.slice (some ad359) l0_0.length c0_0, .slice A0_1 l0_1.length c0_1, .slice A0_2 l0_2.length c0_2, .int .i64 a0_3] 26 (0, 0)) (by (with_reducible repeat (first | refine blk_drewN ?_ _ | refine blk_drew ?_ | refine blk_alloc ?_ _)); exact BK352.out) hb); have n1_ := Aside0.mk (Kd.C_below (by repeat (first | (with_reducible exact HR358_1.out) | (with_reducible refine Kd.C_alloc ?_ _) | (with_reducible refine Kd.C_drewN ?_ _) | (with_reducible refine Kd.C_drew ?_) | exact HR358_1.out)) hb); have n2_ := Aside0.mk (below_step (by repeat (first | (with_reducible first | exact HB.out | apply below_alloc | apply pw_below_drewN | apply below_drew1 | refine below_set ?_ GE352.out) | exact HB.out)) hb); have n3_ := Aside0.mk (hbox); have n4_ := Aside0.mk ((by rw [hg]; exact (below_size (by repeat (first | (with_reducible first | exact HB.out | apply below_alloc | apply pw_below_drewN | apply below_drew1 | refine below_set ?_ GE352.out) | exact HB.out))) : w.heap.size ≤ gb360)); have n5_ := Aside0.mk ((by rw [hg]; exact (below_size (by repeat (first | (with_reducible first | exact HB.out | apply below_alloc | apply pw_below_drewN | apply below_drew1 | refine below_set ?_ GE352.out) | exact HB.out))) : w.heap.size ≤ gb360)); have n6_ := Aside0.mk ((by rw [hg]; exact Nat.ne_of_lt (blk_lt (g := gb352) (o := .cells #[.slice (some ad359) l0_0.length c0_0, .slice A0_1 l0_1.length c0_1, .slice A0_2 l0_2.length c0_2, .int .i64 a0_3] 26 (0, 0)) (by (with_reducible repeat (first | refine blk_drewN ?_ _ | refine blk_drew ?_ | refine blk_alloc ?_ _)); exact BK352.out)) : gb352 ≠ gb360)); have n7_ := Aside0.mk ((by rw [hg]; exact Nat.ne_of_gt (blk_lt (g := gb352) (o := .cells #[.slice (some ad359) l0_0.length c0_0, .slice A0_1 l0_1.length c0_1, .slice A0_2 l0_2.length c0_2, .int .i64 a0_3] 26 (0, 0)) (by (with_reducible repeat (first | refine blk_drewN ?_ _ | refine blk_drew ?_ | refine blk_alloc ?_ _)); exact BK352.out)) : gb360 ≠ gb352)); clear BK352; clear HR358_1; clear HB; have BK352 := n0_; have HR358_1 := n1_; have HB := n2_; have BK360 := n3_; have GW360 := n4_; have GE360 := n5_; have NB352_360 := n6_; have NB360_352 := n7_; clear n0_ n1_ n2_ n3_ n4_ n5_ n6_ n7_; clear hb hbox hg; have hnb78 := NB360_352.out; have hnc78 := NB352_360.out; have hcz79_0 : w77.cell? ⟨gb360, 0, none⟩ = some (.int .i64 0) := (blk_cell BK360.out 0).trans rfl; have hcz79_1 : w77.cell? ⟨gb360, 1, none⟩ = some (.string (⟨#[]⟩ : ByteArray)) := (blk_cell BK360.out 1).trans rfl; have hcz79_2 : w77.cell? ⟨gb360, 2, none⟩ = some (.string (⟨#[]⟩ : ByteArray)) := (blk_cell BK360.out 2).trans rfl; have hcz79_3 : w77.cell? ⟨gb360, 3, none⟩ = some (.string (⟨#[]⟩ : ByteArray)) := (blk_cell BK360.out 3).trans rfl; have hcz79_4 : w77.cell? ⟨gb360, 4, none⟩ = some (.string (⟨#[]⟩ : ByteArray)) := (blk_cell BK360.out 4).trans rfl; have hcz79_5 : w77.cell? ⟨gb360, 5, none⟩ = some (.int .i64 0) := (blk_cell BK360.out 5).trans rfl; have hcz79_6 : w77.cell? ⟨gb360, 6, none⟩ = some (.int .i64 0) := (blk_cell BK360.out 6).trans rfl; have hcz79_7 : w77.cell? ⟨gb360, 7, none⟩ = some (.int .i64 0) := (blk_cell BK360.out 7).trans rfl; have hfz79_0 := blk_frozen BK360.out 0; have hfz79_1 := blk_frozen BK360.out 1; have hfz79_2 := blk_frozen BK360.out 2; have hfz79_3 := blk_frozen BK360.out 3; have hfz79_4 := blk_frozen BK360.out 4; have hfz79_5 := blk_frozen BK360.out 5; have hfz79_6 := blk_frozen BK360.out 6; have hfz79_7 := blk_frozen BK360.out 7; have hcz80_0 : w77.cell? ⟨gb352, 0, none⟩ = some (.slice (some ad359) l0_0.length c0_0) := (blk_cell BK352.out 0).trans rfl; have hcz80_1 : w77.cell? ⟨gb352, 1, none⟩ = some (.slice A0_1 l0_1.length c0_1) := (blk_cell BK352.out 1).trans rfl; have hcz80_2 : w77.cell? ⟨gb352, 2, none⟩ = some (.slice A0_2 l0_2.length c0_2) := (blk_cell BK352.out 2).trans rfl; have hcz80_3 : w77.cell? ⟨gb352, 3, none⟩ = some (.int .i64 a0_3) := (blk_cell BK352.out 3).trans rfl; have hfz80_0 := blk_frozen BK352.out 0; have hfz80_1 := blk_frozen BK352.out 1; have hfz80_2 := blk_frozen BK352.out 2; have hfz80_3 := blk_frozen BK352.out 3))
                                          go_ret
                                          exact ⟨by first | rfl | (simp [errW_none, errW_some] <;> rfl) | (simp only [← hji27]; first | rfl | (simp [errW_none, errW_some] <;> rfl)) | (simp [*, errW_none, errW_some] <;> rfl), by repeat (first | (with_reducible first | exact HB.out | apply below_alloc | apply pw_below_drewN | apply below_drew1 | refine below_set ?_ GE352.out | refine below_set ?_ GE360.out) | exact HB.out)⟩
                                        · rw [if_neg c75] at H
                                          have c75b0 : decide ((l0_0.length : Int) ≤ ((rd_T38 l0_0 ((rd_T33 t355 (ji27)).f0)).f7)) = false := decide_eq_false c75
                                          clear c75
                                          obtain rfl := Option.some.inj H
                                          have hcz81_0 : wc.cell? ⟨gb352, 0, none⟩ = some (.slice A0_0 l0_0.length c0_0) := (blk_cell BK352.out 0).trans rfl
                                          have hcz81_1 : wc.cell? ⟨gb352, 1, none⟩ = some (.slice A0_1 l0_1.length c0_1) := (blk_cell BK352.out 1).trans rfl
                                          have hcz81_2 : wc.cell? ⟨gb352, 2, none⟩ = some (.slice A0_2 l0_2.length c0_2) := (blk_cell BK352.out 2).trans rfl
                                          have hcz81_3 : wc.cell? ⟨gb352, 3, none⟩ = some (.int .i64 a0_3) := (blk_cell BK352.out 3).trans rfl
                                          have hfz81_0 := blk_frozen BK352.out 0
                                          have hfz81_1 := blk_frozen BK352.out 1
                                          have hfz81_2 := blk_frozen BK352.out 2
                                          have hfz81_3 := blk_frozen BK352.out 3
                                          have p359 : 0 ≤ (((rd_T33 t355 (ji27)).f0) : Int) := of_decide_eq_true (by first | (with_reducible assumption) | assumption)
                                          have q359 : ((rd_T33 t355 (ji27)).f0) < (l0_0.length : Int) := of_decide_eq_true (by first | (with_reducible assumption) | assumption)
                                          obtain ⟨ad359, e359, hx359_0, hx359_1, hx359_2, hx359_3, hx359_4, hx359_5, hx359_6, hx359_7⟩ := at_T38 HR0_0.out ((rd_T33 t355 (ji27)).f0) p359 q359
                                          cases e359
                                          replace hx359_0 := (HB.out.cell (World.block_lt_of_cell? w _ hx359_0)).trans hx359_0
                                          replace hx359_1 := (HB.out.cell (World.block_lt_of_cell? w _ hx359_1)).trans hx359_1
                                          replace hx359_2 := (HB.out.cell (World.block_lt_of_cell? w _ hx359_2)).trans hx359_2
                                          replace hx359_3 := (HB.out.cell (World.block_lt_of_cell? w _ hx359_3)).trans hx359_3
                                          replace hx359_4 := (HB.out.cell (World.block_lt_of_cell? w _ hx359_4)).trans hx359_4
                                          replace hx359_5 := (HB.out.cell (World.block_lt_of_cell? w _ hx359_5)).trans hx359_5
                                          replace hx359_6 := (HB.out.cell (World.block_lt_of_cell? w _ hx359_6)).trans hx359_6
                                          replace hx359_7 := (HB.out.cell (World.block_lt_of_cell? w _ hx359_7)).trans hx359_7
                                          replace p359 := eq_true p359
                                          replace q359 := eq_true q359
                                          go_wp2_with (first | ((with_reducible refine gate_dst (N := 6) rfl ?_); (try (refine gate_guard (by rfl) ?_; dsimp only)); refine box_event ?hg (N := 6) ?hd (cs := #[.int .i64 0, .string (⟨#[]⟩ : ByteArray), .string (⟨#[]⟩ : ByteArray), .string (⟨#[]⟩ : ByteArray), .string (⟨#[]⟩ : ByteArray), .int .i64 0, .int .i64 0, .int .i64 0]) (t := 38) ?hr ?_; (case hd => rfl); (case hg => rfl); (case hr => first | (go_simp; done) | (go_simp; rfl)); intro gb360 hg w82 hbox hb; have n0_ := Aside0.mk (blk_below (g := gb352) (o := .cells #[.slice (some ad359) l0_0.length c0_0, .slice A0_1 l0_1.length c0_1, .slice A0_2 l0_2.length c0_2, .int .i64 a0_3] 26 (0, 0)) (by (with_reducible repeat (first | refine blk_drewN ?_ _ | refine blk_drew ?_ | refine blk_alloc ?_ _)); exact BK352.out) hb); have n1_ := Aside0.mk (Kd.C_below (by repeat (first | (with_reducible exact HR358_1.out) | (with_reducible refine Kd.C_alloc ?_ _) | (with_reducible refine Kd.C_drewN ?_ _) | (with_reducible refine Kd.C_drew ?_) | exact HR358_1.out)) hb); have n2_ := Aside0.mk (below_step (by repeat (first | (with_reducible first | exact HB.out | apply below_alloc | apply pw_below_drewN | apply below_drew1 | refine below_set ?_ GE352.out) | exact HB.out)) hb); have n3_ := Aside0.mk (hbox); have n4_ := Aside0.mk ((by rw [hg]; exact (below_size (by repeat (first | (with_reducible first | exact HB.out | apply below_alloc | apply pw_below_drewN | apply below_drew1 | refine below_set ?_ GE352.out) | exact HB.out))) : w.heap.size ≤ gb360)); have n5_ := Aside0.mk ((by rw [hg]; exact (below_size (by repeat (first | (with_reducible first | exact HB.out | apply below_alloc | apply pw_below_drewN | apply below_drew1 | refine below_set ?_ GE352.out) | exact HB.out))) : w.heap.size ≤ gb360)); have n6_ := Aside0.mk ((by rw [hg]; exact Nat.ne_of_lt (blk_lt (g := gb352) (o := .cells #[.slice (some ad359) l0_0.length c0_0, .slice A0_1 l0_1.length c0_1, .slice A0_2 l0_2.length c0_2, .int .i64 a0_3] 26 (0, 0)) (by (with_reducible repeat (first | refine blk_drewN ?_ _ | refine blk_drew ?_ | refine blk_alloc ?_ _)); exact BK352.out)) : gb352 ≠ gb360)); have n7_ := Aside0.mk ((by rw [hg]; exact Nat.ne_of_gt (blk_lt (g := gb352) (o := .cells #[.slice (some ad359) l0_0.length c0_0, .slice A0_1 l0_1.length c0_1, .slice A0_2 l0_2.length c0_2, .int .i64 a0_3] 26 (0, 0)) (by (with_reducible repeat (first | refine blk_drewN ?_ _ | refine blk_drew ?_ | refine blk_alloc ?_ _)); exact BK352.out)) : gb360 ≠ gb352)); clear BK352; clear HR358_1; clear HB; have BK352 := n0_; have HR358_1 := n1_; have HB := n2_; have BK360 := n3_; have GW360 := n4_; have GE360 := n5_; have NB352_360 := n6_; have NB360_352 := n7_; clear n0_ n1_ n2_ n3_ n4_ n5_ n6_ n7_; clear hb hbox hg; have hnb83 := NB360_352.out; have hnc83 := NB352_360.out; have hcz84_0 : w82.cell? ⟨gb360, 0, none⟩ = some (.int .i64 0) := (blk_cell BK360.out 0).trans rfl; have hcz84_1 : w82.cell? ⟨gb360, 1, none⟩ = some (.string (⟨#[]⟩ : ByteArray)) := (blk_cell BK360.out 1).trans rfl; have hcz84_2 : w82.cell? ⟨gb360, 2, none⟩ = some (.string (⟨#[]⟩ : ByteArray)) := (blk_cell BK360.out 2).trans rfl; have hcz84_3 : w82.cell? ⟨gb360, 3, none⟩ = some (.string (⟨#[]⟩ : ByteArray)) := (blk_cell BK360.out 3).trans rfl; have hcz84_4 : w82.cell? ⟨gb360, 4, none⟩ = some (.string (⟨#[]⟩ : ByteArray)) := (blk_cell BK360.out 4).trans rfl; have hcz84_5 : w82.cell? ⟨gb360, 5, none⟩ = some (.int .i64 0) := (blk_cell BK360.out 5).trans rfl; have hcz84_6 : w82.cell? ⟨gb360, 6, none⟩ = some (.int .i64 0) := (blk_cell BK360.out 6).trans rfl; have hcz84_7 : w82.cell? ⟨gb360, 7, none⟩ = some (.int .i64 0) := (blk_cell BK360.out 7).trans rfl; have hfz84_0 := blk_frozen BK360.out 0; have hfz84_1 := blk_frozen BK360.out 1; have hfz84_2 := blk_frozen BK360.out 2; have hfz84_3 := blk_frozen BK360.out 3; have hfz84_4 := blk_frozen BK360.out 4; have hfz84_5 := blk_frozen BK360.out 5; have hfz84_6 := blk_frozen BK360.out 6; have hfz84_7 := blk_frozen BK360.out 7; have hcz85_0 : w82.cell? ⟨gb352, 0, none⟩ = some (.slice (some ad359) l0_0.length c0_0) := (blk_cell BK352.out 0).trans rfl; have hcz85_1 : w82.cell? ⟨gb352, 1, none⟩ = some (.slice A0_1 l0_1.length c0_1) := (blk_cell BK352.out 1).trans rfl; have hcz85_2 : w82.cell? ⟨gb352, 2, none⟩ = some (.slice A0_2 l0_2.length c0_2) := (blk_cell BK352.out 2).trans rfl; have hcz85_3 : w82.cell? ⟨gb352, 3, none⟩ = some (.int .i64 a0_3) := (blk_cell BK352.out 3).trans rfl; have hfz85_0 := blk_frozen BK352.out 0; have hfz85_1 := blk_frozen BK352.out 1; have hfz85_2 := blk_frozen BK352.out 2; have hfz85_3 := blk_frozen BK352.out 3))
                                          go_ret
                                          exact ⟨by first | rfl | (simp [errW_none, errW_some] <;> rfl) | (simp only [← hji27]; first | rfl | (simp [errW_none, errW_some] <;> rfl)) | (simp [*, errW_none, errW_some] <;> rfl), by repeat (first | (with_reducible first | exact HB.out | apply below_alloc | apply pw_below_drewN | apply below_drew1 | refine below_set ?_ GE352.out | refine below_set ?_ GE360.out) | exact HB.out)⟩
                                      · replace c74 := Bool.eq_false_iff.mpr c74
                                        subst c74
                                        have H1 : (some false) = some r := by rw [if_neg (show ¬ (false = true) by decide)] at H; exact H
                                        clear H
                                        have H := H1
                                        clear H1
                                        obtain rfl := Option.some.inj H
                                        have hcz86_0 : wc.cell? ⟨gb352, 0, none⟩ = some (.slice A0_0 l0_0.length c0_0) := (blk_cell BK352.out 0).trans rfl
                                        have hcz86_1 : wc.cell? ⟨gb352, 1, none⟩ = some (.slice A0_1 l0_1.length c0_1) := (blk_cell BK352.out 1).trans rfl
                                        have hcz86_2 : wc.cell? ⟨gb352, 2, none⟩ = some (.slice A0_2 l0_2.length c0_2) := (blk_cell BK352.out 2).trans rfl
                                        have hcz86_3 : wc.cell? ⟨gb352, 3, none⟩ = some (.int .i64 a0_3) := (blk_cell BK352.out 3).trans rfl
                                        have hfz86_0 := blk_frozen BK352.out 0
                                        have hfz86_1 := blk_frozen BK352.out 1
                                        have hfz86_2 := blk_frozen BK352.out 2
                                        have hfz86_3 := blk_frozen BK352.out 3
                                        have p359 : 0 ≤ (((rd_T33 t355 (ji27)).f0) : Int) := of_decide_eq_true (by first | (with_reducible assumption) | assumption)
                                        have q359 : ((rd_T33 t355 (ji27)).f0) < (l0_0.length : Int) := of_decide_eq_true (by first | (with_reducible assumption) | assumption)
                                        obtain ⟨ad359, e359, hx359_0, hx359_1, hx359_2, hx359_3, hx359_4, hx359_5, hx359_6, hx359_7⟩ := at_T38 HR0_0.out ((rd_T33 t355 (ji27)).f0) p359 q359
                                        cases e359
                                        replace hx359_0 := (HB.out.cell (World.block_lt_of_cell? w _ hx359_0)).trans hx359_0
                                        replace hx359_1 := (HB.out.cell (World.block_lt_of_cell? w _ hx359_1)).trans hx359_1
                                        replace hx359_2 := (HB.out.cell (World.block_lt_of_cell? w _ hx359_2)).trans hx359_2
                                        replace hx359_3 := (HB.out.cell (World.block_lt_of_cell? w _ hx359_3)).trans hx359_3
                                        replace hx359_4 := (HB.out.cell (World.block_lt_of_cell? w _ hx359_4)).trans hx359_4
                                        replace hx359_5 := (HB.out.cell (World.block_lt_of_cell? w _ hx359_5)).trans hx359_5
                                        replace hx359_6 := (HB.out.cell (World.block_lt_of_cell? w _ hx359_6)).trans hx359_6
                                        replace hx359_7 := (HB.out.cell (World.block_lt_of_cell? w _ hx359_7)).trans hx359_7
                                        replace p359 := eq_true p359
                                        replace q359 := eq_true q359
                                        go_wp2_with (first | ((with_reducible refine gate_dst (N := 6) rfl ?_); (try (refine gate_guard (by rfl) ?_; dsimp only)); refine box_event ?hg (N := 6) ?hd (cs := #[.int .i64 0, .string (⟨#[]⟩ : ByteArray), .string (⟨#[]⟩ : ByteArray), .string (⟨#[]⟩ : ByteArray), .string (⟨#[]⟩ : ByteArray), .int .i64 0, .int .i64 0, .int .i64 0]) (t := 38) ?hr ?_; (case hd => rfl); (case hg => rfl); (case hr => first | (go_simp; done) | (go_simp; rfl)); intro gb360 hg w87 hbox hb; have n0_ := Aside0.mk (blk_below (g := gb352) (o := .cells #[.slice (some ad359) l0_0.length c0_0, .slice A0_1 l0_1.length c0_1, .slice A0_2 l0_2.length c0_2, .int .i64 a0_3] 26 (0, 0)) (by (with_reducible repeat (first | refine blk_drewN ?_ _ | refine blk_drew ?_ | refine blk_alloc ?_ _)); exact BK352.out) hb); have n1_ := Aside0.mk (Kd.C_below (by repeat (first | (with_reducible exact HR358_1.out) | (with_reducible refine Kd.C_alloc ?_ _) | (with_reducible refine Kd.C_drewN ?_ _) | (with_reducible refine Kd.C_drew ?_) | exact HR358_1.out)) hb); have n2_ := Aside0.mk (below_step (by repeat (first | (with_reducible first | exact HB.out | apply below_alloc | apply pw_below_drewN | apply below_drew1 | refine below_set ?_ GE352.out) | exact HB.out)) hb); have n3_ := Aside0.mk (hbox); have n4_ := Aside0.mk ((by rw [hg]; exact (below_size (by repeat (first | (with_reducible first | exact HB.out | apply below_alloc | apply pw_below_drewN | apply below_drew1 | refine below_set ?_ GE352.out) | exact HB.out))) : w.heap.size ≤ gb360)); have n5_ := Aside0.mk ((by rw [hg]; exact (below_size (by repeat (first | (with_reducible first | exact HB.out | apply below_alloc | apply pw_below_drewN | apply below_drew1 | refine below_set ?_ GE352.out) | exact HB.out))) : w.heap.size ≤ gb360)); have n6_ := Aside0.mk ((by rw [hg]; exact Nat.ne_of_lt (blk_lt (g := gb352) (o := .cells #[.slice (some ad359) l0_0.length c0_0, .slice A0_1 l0_1.length c0_1, .slice A0_2 l0_2.length c0_2, .int .i64 a0_3] 26 (0, 0)) (by (with_reducible repeat (first | refine blk_drewN ?_ _ | refine blk_drew ?_ | refine blk_alloc ?_ _)); exact BK352.out)) : gb352 ≠ gb360)); have n7_ := Aside0.mk ((by rw [hg]; exact Nat.ne_of_gt (blk_lt (g := gb352) (o := .cells #[.slice (some ad359) l0_0.length c0_0, .slice A0_1 l0_1.length c0_1, .slice A0_2 l0_2.length c0_2, .int .i64 a0_3] 26 (0, 0)) (by (with_reducible repeat (first | refine blk_drewN ?_ _ | refine blk_drew ?_ | refine blk_alloc ?_ _)); exact BK352.out)) : gb360 ≠ gb352)); clear BK352; clear HR358_1; clear HB; have BK352 := n0_; have HR358_1 := n1_; have HB := n2_; have BK360 := n3_; have GW360 := n4_; have GE360 := n5_; have NB352_360 := n6_; have NB360_352 := n7_; clear n0_ n1_ n2_ n3_ n4_ n5_ n6_ n7_; clear hb hbox hg; have hnb88 := NB360_352.out; have hnc88 := NB352_360.out; have hcz89_0 : w87.cell? ⟨gb360, 0, none⟩ = some (.int .i64 0) := (blk_cell BK360.out 0).trans rfl; have hcz89_1 : w87.cell? ⟨gb360, 1, none⟩ = some (.string (⟨#[]⟩ : ByteArray)) := (blk_cell BK360.out 1).trans rfl; have hcz89_2 : w87.cell? ⟨gb360, 2, none⟩ = some (.string (⟨#[]⟩ : ByteArray)) := (blk_cell BK360.out 2).trans rfl; have hcz89_3 : w87.cell? ⟨gb360, 3, none⟩ = some (.string (⟨#[]⟩ : ByteArray)) := (blk_cell BK360.out 3).trans rfl; have hcz89_4 : w87.cell? ⟨gb360, 4, none⟩ = some (.string (⟨#[]⟩ : ByteArray)) := (blk_cell BK360.out 4).trans rfl; have hcz89_5 : w87.cell? ⟨gb360, 5, none⟩ = some (.int .i64 0) := (blk_cell BK360.out 5).trans rfl; have hcz89_6 : w87.cell? ⟨gb360, 6, none⟩ = some (.int .i64 0) := (blk_cell BK360.out 6).trans rfl; have hcz89_7 : w87.cell? ⟨gb360, 7, none⟩ = some (.int .i64 0) := (blk_cell BK360.out 7).trans rfl; have hfz89_0 := blk_frozen BK360.out 0; have hfz89_1 := blk_frozen BK360.out 1; have hfz89_2 := blk_frozen BK360.out 2; have hfz89_3 := blk_frozen BK360.out 3; have hfz89_4 := blk_frozen BK360.out 4; have hfz89_5 := blk_frozen BK360.out 5; have hfz89_6 := blk_frozen BK360.out 6; have hfz89_7 := blk_frozen BK360.out 7; have hcz90_0 : w87.cell? ⟨gb352, 0, none⟩ = some (.slice (some ad359) l0_0.length c0_0) := (blk_cell BK352.out 0).trans rfl; have hcz90_1 : w87.cell? ⟨gb352, 1, none⟩ = some (.slice A0_1 l0_1.length c0_1) := (blk_cell BK352.out 1).trans rfl; have hcz90_2 : w87.cell? ⟨gb352, 2, none⟩ = some (.slice A0_2 l0_2.length c0_2) := (blk_cell BK352.out 2).trans rfl; have hcz90_3 : w87.cell? ⟨gb352, 3, none⟩ = some (.int .i64 a0_3) := (blk_cell BK352.out 3).trans rfl; have hfz90_0 := blk_frozen BK352.out 0; have hfz90_1 := blk_frozen BK352.out 1; have hfz90_2 := blk_frozen BK352.out 2; have hfz90_3 := blk_frozen BK352.out 3))
                                        go_ret
                                        exact ⟨by first | rfl | (simp [errW_none, errW_some] <;> rfl) | (simp only [← hji27]; first | rfl | (simp [errW_none, errW_some] <;> rfl)) | (simp [*, errW_none, errW_some] <;> rfl), by repeat (first | (with_reducible first | exact HB.out | apply below_alloc | apply pw_below_drewN | apply below_drew1 | refine below_set ?_ GE352.out | refine below_set ?_ GE360.out) | exact HB.out)⟩
                              · rw [if_neg c37] at H
                                have c37b0 : (((rd_T38 l0_0 ((rd_T33 t355 (ji27)).f0)).f0) == 7) = false := beq_eq_false_iff_ne.mpr c37
                                have c37b1 : (((rd_T38 l0_0 ((rd_T33 t355 (ji27)).f0)).f0) != 7) = true := bne_iff_ne.mpr c37
                                by_cases c91 : ((rd_T38 l0_0 ((rd_T33 t355 (ji27)).f0)).f0) = 8
                                · rw [if_pos c91] at H
                                  have c91b0 : (((rd_T38 l0_0 ((rd_T33 t355 (ji27)).f0)).f0) == 8) = true := beq_iff_eq.mpr c91
                                  have c91b1 : (((rd_T38 l0_0 ((rd_T33 t355 (ji27)).f0)).f0) != 8) = false := bne_eq_false_iff_eq.mpr c91
                                  clear c91
                                  by_cases c92 : ((rd_T38 l0_0 ((rd_T33 t355 (ji27)).f0)).f6) < 0
                                  · rw [if_pos c92] at H
                                    have c92b0 : decide (((rd_T38 l0_0 ((rd_T33 t355 (ji27)).f0)).f6) < 0) = true := decide_eq_true c92
                                    clear c92
                                    by_cases c93 : t353 = true
                                    · subst c93
                                      have H1 : (some true) = some r := by rw [if_pos rfl] at H; exact H
                                      clear H
                                      have H := H1
                                      clear H1
                                      obtain rfl := Option.some.inj H
                                      have hcz94_0 : wc.cell? ⟨gb352, 0, none⟩ = some (.slice A0_0 l0_0.length c0_0) := (blk_cell BK352.out 0).trans rfl
                                      have hcz94_1 : wc.cell? ⟨gb352, 1, none⟩ = some (.slice A0_1 l0_1.length c0_1) := (blk_cell BK352.out 1).trans rfl
                                      have hcz94_2 : wc.cell? ⟨gb352, 2, none⟩ = some (.slice A0_2 l0_2.length c0_2) := (blk_cell BK352.out 2).trans rfl
                                      have hcz94_3 : wc.cell? ⟨gb352, 3, none⟩ = some (.int .i64 a0_3) := (blk_cell BK352.out 3).trans rfl
                                      have hfz94_0 := blk_frozen BK352.out 0
                                      have hfz94_1 := blk_frozen BK352.out 1
                                      have hfz94_2 := blk_frozen BK352.out 2
                                      have hfz94_3 := blk_frozen BK352.out 3
                                      have p359 : 0 ≤ (((rd_T33 t355 (ji27)).f0) : Int) := of_decide_eq_true (by first | (with_reducible assumption) | assumption)
                                      have q359 : ((rd_T33 t355 (ji27)).f0) < (l0_0.length : Int) := of_decide_eq_true (by first | (with_reducible assumption) | assumption)
                                      obtain ⟨ad359, e359, hx359_0, hx359_1, hx359_2, hx359_3, hx359_4, hx359_5, hx359_6, hx359_7⟩ := at_T38 HR0_0.out ((rd_T33 t355 (ji27)).f0) p359 q359
                                      cases e359
                                      replace hx359_0 := (HB.out.cell (World.block_lt_of_cell? w _ hx359_0)).trans hx359_0
                                      replace hx359_1 := (HB.out.cell (World.block_lt_of_cell? w _ hx359_1)).trans hx359_1
                                      replace hx359_2 := (HB.out.cell (World.block_lt_of_cell? w _ hx359_2)).trans hx359_2
                                      replace hx359_3 := (HB.out.cell (World.block_lt_of_cell? w _ hx359_3)).trans hx359_3
                                      replace hx359_4 := (HB.out.cell (World.block_lt_of_cell? w _ hx359_4)).trans hx359_4
                                      replace hx359_5 := (HB.out.cell (World.block_lt_of_cell? w _ hx359_5)).trans hx359_5
                                      replace hx359_6 := (HB.out.cell (World.block_lt_of_cell? w _ hx359_6)).trans hx359_6
                                      replace hx359_7 := (HB.out.cell (World.block_lt_of_cell? w _ hx359_7)).trans hx359_7
                                      replace p359 := eq_true p359
                                      replace q359 := eq_true q359
                                      go_wp2_with (first | ((with_reducible refine gate_dst (N := 6) rfl ?_); (try (refine gate_guard (by rfl) ?_; dsimp only)); refine box_event ?hg (N := 6) ?hd (cs := #[.int .i64 0, .string (⟨#[]⟩ : ByteArray), .string (⟨#[]⟩ : ByteArray), .string (⟨#[]⟩ : ByteArray), .string (⟨#[]⟩ : ByteArray), .int .i64 0, .int .i64 0, .int .i64 0]) (t := 38) ?hr ?_; (case hd => rfl); (case hg => rfl); (case hr => first | (go_simp; done) | (go_simp; rfl)); intro gb360 hg w95 hbox hb; have n0_ := Aside0.mk (blk_below (g := gb352) (o := .cells #[.slice (some ad359) l0_0.length c0_0, .slice A0_1 l0_1.length c0_1, .slice A0_2 l0_2.length c0_2, .int .i64 a0_3] 26 (0, 0)) (by (with_reducible repeat (first | refine blk_drewN ?_ _ | refine blk_drew ?_ | refine blk_alloc ?_ _)); exact BK352.out) hb); have n1_ := Aside0.mk (Kd.C_below (by repeat (first | (with_reducible exact HR358_1.out) | (with_reducible refine Kd.C_alloc ?_ _) | (with_reducible refine Kd.C_drewN ?_ _) | (with_reducible refine Kd.C_drew ?_) | exact HR358_1.out)) hb); have n2_ := Aside0.mk (below_step (by repeat (first | (with_reducible first | exact HB.out | apply below_alloc | apply pw_below_drewN | apply below_drew1 | refine below_set ?_ GE352.out) | exact HB.out)) hb); have n3_ := Aside0.mk (hbox); have n4_ := Aside0.mk ((by rw [hg]; exact (below_size (by repeat (first | (with_reducible first | exact HB.out | apply below_alloc | apply pw_below_drewN | apply below_drew1 | refine below_set ?_ GE352.out) | exact HB.out))) : w.heap.size ≤ gb360)); have n5_ := Aside0.mk ((by rw [hg]; exact (below_size (by repeat (first | (with_reducible first | exact HB.out | apply below_alloc | apply pw_below_drewN | apply below_drew1 | refine below_set ?_ GE352.out) | exact HB.out))) : w.heap.size ≤ gb360)); have n6_ := Aside0.mk ((by rw [hg]; exact Nat.ne_of_lt (blk_lt (g := gb352) (o := .cells #[.slice (some ad359) l0_0.length c0_0, .slice A0_1 l0_1.length c0_1, .slice A0_2 l0_2.length c0_2, .int .i64 a0_3] 26 (0, 0)) (by (with_reducible repeat (first | refine blk_drewN ?_ _ | refine blk_drew ?_ | refine blk_alloc ?_ _)); exact BK352.out)) : gb352 ≠ gb360)); have n7_ := Aside0.mk ((by rw [hg]; exact Nat.ne_of_gt (blk_lt (g := gb352) (o := .cells #[.slice (some ad359) l0_0.length c0_0, .slice A0_1 l0_1.length c0_1, .slice A0_2 l0_2.length c0_2, .int .i64 a0_3] 26 (0, 0)) (by (with_reducible repeat (first | refine blk_drewN ?_ _ | refine blk_drew ?_ | refine blk_alloc ?_ _)); exact BK352.out)) : gb360 ≠ gb352)); clear BK352; clear HR358_1; clear HB; have BK352 := n0_; have HR358_1 := n1_; have HB := n2_; have BK360 := n3_; have GW360 := n4_; have GE360 := n5_; have NB352_360 := n6_; have NB360_352 := n7_; clear n0_ n1_ n2_ n3_ n4_ n5_ n6_ n7_; clear hb hbox hg; have hnb96 := NB360_352.out; have hnc96 := NB352_360.out; have hcz97_0 : w95.cell? ⟨gb360, 0, none⟩ = some (.int .i64 0) := (blk_cell BK360.out 0).trans rfl; have hcz97_1 : w95.cell? ⟨gb360, 1, none⟩ = some (.string (⟨#[]⟩ : ByteArray)) := (blk_cell BK360.out 1).trans rfl; have hcz97_2 : w95.cell? ⟨gb360, 2, none⟩ = some (.string (⟨#[]⟩ : ByteArray)) := (blk_cell BK360.out 2).trans rfl; have hcz97_3 : w95.cell? ⟨gb360, 3, none⟩ = some (.string (⟨#[]⟩ : ByteArray)) := (blk_cell BK360.out 3).trans rfl; have hcz97_4 : w95.cell? ⟨gb360, 4, none⟩ = some (.string (⟨#[]⟩ : ByteArray)) := (blk_cell BK360.out 4).trans rfl; have hcz97_5 : w95.cell? ⟨gb360, 5, none⟩ = some (.int .i64 0) := (blk_cell BK360.out 5).trans rfl; have hcz97_6 : w95.cell? ⟨gb360, 6, none⟩ = some (.int .i64 0) := (blk_cell BK360.out 6).trans rfl; have hcz97_7 : w95.cell? ⟨gb360, 7, none⟩ = some (.int .i64 0) := (blk_cell BK360.out 7).trans rfl; have hfz97_0 := blk_frozen BK360.out 0; have hfz97_1 := blk_frozen BK360.out 1; have hfz97_2 := blk_frozen BK360.out 2; have hfz97_3 := blk_frozen BK360.out 3; have hfz97_4 := blk_frozen BK360.out 4; have hfz97_5 := blk_frozen BK360.out 5; have hfz97_6 := blk_frozen BK360.out 6; have hfz97_7 := blk_frozen BK360.out 7; have hcz98_0 : w95.cell? ⟨gb352, 0, none⟩ = some (.slice (some ad359) l0_0.length c0_0) := (blk_cell BK352.out 0).trans rfl; have hcz98_1 : w95.cell? ⟨gb352, 1, none⟩ = some (.slice A0_1 l0_1.length c0_1) := (blk_cell BK352.out 1).trans rfl; have hcz98_2 : w95.cell? ⟨gb352, 2, none⟩ = some (.slice A0_2 l0_2.length c0_2) := (blk_cell BK352.out 2).trans rfl; have hcz98_3 : w95.cell? ⟨gb352, 3, none⟩ = some (.int .i64 a0_3) := (blk_cell BK352.out 3).trans rfl; have hfz98_0 := blk_frozen BK352.out 0; have hfz98_1 := blk_frozen BK352.out 1; have hfz98_2 := blk_frozen BK352.out 2; have hfz98_3 := blk_frozen BK352.out 3))
                                      go_ret
                                      exact ⟨by first | rfl | (simp [errW_none, errW_some] <;> rfl) | (simp only [← hji27]; first | rfl | (simp [errW_none, errW_some] <;> rfl)) | (simp [*, errW_none, errW_some] <;> rfl), by repeat (first | (with_reducible first | exact HB.out | apply below_alloc | apply pw_below_drewN | apply below_drew1 | refine below_set ?_ GE352.out | refine below_set ?_ GE360.out) | exact HB.out)⟩
                                    · replace c93 := Bool.eq_false_iff.mpr c93
                                      subst c93
                                      have H1 : (some false) = some r := by rw [if_neg (show ¬ (false = true) by decide)] at H; exact H
                                      clear H
                                      have H := H1
                                      clear H1
                                      obtain rfl := Option.some.inj H
                                      have hcz99_0 : wc.cell? ⟨gb352, 0, none⟩ = some (.slice A0_0 l0_0.length c0_0) := (blk_cell BK352.out 0).trans rfl
                                      have hcz99_1 : wc.cell? ⟨gb352, 1, none⟩ = some (.slice A0_1 l0_1.length c0_1) := (blk_cell BK352.out 1).trans rfl
                                      have hcz99_2 : wc.cell? ⟨gb352, 2, none⟩ = some (.slice A0_2 l0_2.length c0_2) := (blk_cell BK352.out 2).trans rfl
                                      have hcz99_3 : wc.cell? ⟨gb352, 3, none⟩ = some (.int .i64 a0_3) := (blk_cell BK352.out 3).trans rfl
                                      have hfz99_0 := blk_frozen BK352.out 0
                                      have hfz99_1 := blk_frozen BK352.out 1
                                      have hfz99_2 := blk_frozen BK352.out 2
                                      have hfz99_3 := blk_frozen BK352.out 3
                                      have p359 : 0 ≤ (((rd_T33 t355 (ji27)).f0) : Int) := of_decide_eq_true (by first | (with_reducible assumption) | assumption)
                                      have q359 : ((rd_T33 t355 (ji27)).f0) < (l0_0.length : Int) := of_decide_eq_true (by first | (with_reducible assumption) | assumption)
                                      obtain ⟨ad359, e359, hx359_0, hx359_1, hx359_2, hx359_3, hx359_4, hx359_5, hx359_6, hx359_7⟩ := at_T38 HR0_0.out ((rd_T33 t355 (ji27)).f0) p359 q359
                                      cases e359
                                      replace hx359_0 := (HB.out.cell (World.block_lt_of_cell? w _ hx359_0)).trans hx359_0
                                      replace hx359_1 := (HB.out.cell (World.block_lt_of_cell? w _ hx359_1)).trans hx359_1
                                      replace hx359_2 := (HB.out.cell (World.block_lt_of_cell? w _ hx359_2)).trans hx359_2
                                      replace hx359_3 := (HB.out.cell (World.block_lt_of_cell? w _ hx359_3)).trans hx359_3
                                      replace hx359_4 := (HB.out.cell (World.block_lt_of_cell? w _ hx359_4)).trans hx359_4
                                      replace hx359_5 := (HB.out.cell (World.block_lt_of_cell? w _ hx359_5)).trans hx359_5
                                      replace hx359_6 := (HB.out.cell (World.block_lt_of_cell? w _ hx359_6)).trans hx359_6
                                      replace hx359_7 := (HB.out.cell (World.block_lt_of_cell? w _ hx359_7)).trans hx359_7
                                      replace p359 := eq_true p359
                                      replace q359 := eq_true q359
                                      go_wp2_with (first | ((with_reducible refine gate_dst (N := 6) rfl ?_); (try (refine gate_guard (by rfl) ?_; dsimp only)); refine box_event ?hg (N := 6) ?hd (cs := #[.int .i64 0, .string (⟨#[]⟩ : ByteArray), .string (⟨#[]⟩ : ByteArray), .string (⟨#[]⟩ : ByteArray), .string (⟨#[]⟩ : ByteArray), .int .i64 0, .int .i64 0, .int .i64 0]) (t := 38) ?hr ?_; (case hd => rfl); (case hg => rfl); (case hr => first | (go_simp; done) | (go_simp; rfl)); intro gb360 hg w100 hbox hb; have n0_ := Aside0.mk (blk_below (g := gb352) (o := .cells #[.slice (some ad359) l0_0.length c0_0, .slice A0_1 l0_1.length c0_1, .slice A0_2 l0_2.length c0_2, .int .i64 a0_3] 26 (0, 0)) (by (with_reducible repeat (first | refine blk_drewN ?_ _ | refine blk_drew ?_ | refine blk_alloc ?_ _)); exact BK352.out) hb); have n1_ := Aside0.mk (Kd.C_below (by repeat (first | (with_reducible exact HR358_1.out) | (with_reducible refine Kd.C_alloc ?_ _) | (with_reducible refine Kd.C_drewN ?_ _) | (with_reducible refine Kd.C_drew ?_) | exact HR358_1.out)) hb); have n2_ := Aside0.mk (below_step (by repeat (first | (with_reducible first | exact HB.out | apply below_alloc | apply pw_below_drewN | apply below_drew1 | refine below_set ?_ GE352.out) | exact HB.out)) hb); have n3_ := Aside0.mk (hbox); have n4_ := Aside0.mk ((by rw [hg]; exact (below_size (by repeat (first | (with_reducible first | exact HB.out | apply below_alloc | apply pw_below_drewN | apply below_drew1 | refine below_set ?_ GE352.out) | exact HB.out))) : w.heap.size ≤ gb360)); have n5_ := Aside0.mk ((by rw [hg]; exact (below_size (by repeat (first | (with_reducible first | exact HB.out | apply below_alloc | apply pw_below_drewN | apply below_drew1 | refine below_set ?_ GE352.out) | exact HB.out))) : w.heap.size ≤ gb360)); have n6_ := Aside0.mk ((by rw [hg]; exact Nat.ne_of_lt (blk_lt (g := gb352) (o := .cells #[.slice (some ad359) l0_0.length c0_0, .slice A0_1 l0_1.length c0_1, .slice A0_2 l0_2.length c0_2, .int .i64 a0_3] 26 (0, 0)) (by (with_reducible repeat (first | refine blk_drewN ?_ _ | refine blk_drew ?_ | refine blk_alloc ?_ _)); exact BK352.out)) : gb352 ≠ gb360)); have n7_ := Aside0.mk ((by rw [hg]; exact Nat.ne_of_gt (blk_lt (g := gb352) (o := .cells #[.slice (some ad359) l0_0.length c0_0, .slice A0_1 l0_1.length c0_1, .slice A0_2 l0_2.length c0_2, .int .i64 a0_3] 26 (0, 0)) (by (with_reducible repeat (first | refine blk_drewN ?_ _ | refine blk_drew ?_ | refine blk_alloc ?_ _)); exact BK352.out)) : gb360 ≠ gb352)); clear BK352; clear HR358_1; clear HB; have BK352 := n0_; have HR358_1 := n1_; have HB := n2_; have BK360 := n3_; have GW360 := n4_; have GE360 := n5_; have NB352_360 := n6_; have NB360_352 := n7_; clear n0_ n1_ n2_ n3_ n4_ n5_ n6_ n7_; clear hb hbox hg; have hnb101 := NB360_352.out; have hnc101 := NB352_360.out; have hcz102_0 : w100.cell? ⟨gb360, 0, none⟩ = some (.int .i64 0) := (blk_cell BK360.out 0).trans rfl; have hcz102_1 : w100.cell? ⟨gb360, 1, none⟩ = some (.string (⟨#[]⟩ : ByteArray)) := (blk_cell BK360.out 1).trans rfl; have hcz102_2 : w100.cell? ⟨gb360, 2, none⟩ = some (.string (⟨#[]⟩ : ByteArray)) := (blk_cell BK360.out 2).trans rfl; have hcz102_3 : w100.cell? ⟨gb360, 3, none⟩ = some (.string (⟨#[]⟩ : ByteArray)) := (blk_cell BK360.out 3).trans rfl; have hcz102_4 : w100.cell? ⟨gb360, 4, none⟩ = some (.string (⟨#[]⟩ : ByteArray)) := (blk_cell BK360.out 4).trans rfl; have hcz102_5 : w100.cell? ⟨gb360, 5, none⟩ = some (.int .i64 0) := (blk_cell BK360.out 5).trans rfl; have hcz102_6 : w100.cell? ⟨gb360, 6, none⟩ = some (.int .i64 0) := (blk_cell BK360.out 6).trans rfl; have hcz102_7 : w100.cell? ⟨gb360, 7, none⟩ = some (.int .i64 0) := (blk_cell BK360.out 7).trans rfl; have hfz102_0 := blk_frozen BK360.out 0; have hfz102_1 := blk_frozen BK360.out 1; have hfz102_2 := blk_frozen BK360.out 2; have hfz102_3 := blk_frozen BK360.out 3; have hfz102_4 := blk_frozen BK360.out 4; have hfz102_5 := blk_frozen BK360.out 5; have hfz102_6 := blk_frozen BK360.out 6; have hfz102_7 := blk_frozen BK360.out 7; have hcz103_0 : w100.cell? ⟨gb352, 0, none⟩ = some (.slice (some ad359) l0_0.length c0_0) := (blk_cell BK352.out 0).trans rfl; have hcz103_1 : w100.cell? ⟨gb352, 1, none⟩ = some (.slice A0_1 l0_1.length c0_1) := (blk_cell BK352.out 1).trans rfl; have hcz103_2 : w100.cell? ⟨gb352, 2, none⟩ = some (.slice A0_2 l0_2.length c0_2) := (blk_cell BK352.out 2).trans rfl; have hcz103_3 : w100.cell? ⟨gb352, 3, none⟩ = some (.int .i64 a0_3) := (blk_cell BK352.out 3).trans rfl; have hfz103_0 := blk_frozen BK352.out 0; have hfz103_1 := blk_frozen BK352.out 1; have hfz103_2 := blk_frozen BK352.out 2; have hfz103_3 := blk_frozen BK352.out 3))
                                      go_ret
                                      exact ⟨by first | rfl | (simp [errW_none, errW_some] <;> rfl) | (simp only [← hji27]; first | rfl | (simp [errW_none, errW_some] <;> rfl)) | (simp [*, errW_none, errW_some] <;> rfl), by repeat (first | (with_reducible first | exact HB.out | apply below_alloc | apply pw_below_drewN | apply below_drew1 | refine below_set ?_ GE352.out | refine below_set ?_ GE360.out) | exact HB.out)⟩
                                  · rw [if_neg c92] at H
                                    have c92b0 : decide (((rd_T38 l0_0 ((rd_T33 t355 (ji27)).f0)).f6) < 0) = false := decide_eq_false c92
                                    clear c92
                                    by_cases c104 : ((rd_T38 l0_0 ((rd_T33 t355 (ji27)).f0)).f6) ≥ (l0_0.length : Int)
                                    · rw [if_pos c104] at H
                                      have c104b0 : decide ((l0_0.length : Int) ≤ ((rd_T38 l0_0 ((rd_T33 t355 (ji27)).f0)).f6)) = true := decide_eq_true c104
                                      clear c104
                                      by_cases c105 : t353 = true
                                      · subst c105
                                        have H1 : (some true) = some r := by rw [if_pos rfl] at H; exact H
                                        clear H
                                        have H := H1
                                        clear H1
                                        obtain rfl := Option.some.inj H
                                        have hcz106_0 : wc.cell? ⟨gb352, 0, none⟩ = some (.slice A0_0 l0_0.length c0_0) := (blk_cell BK352.out 0).trans rfl
                                        have hcz106_1 : wc.cell? ⟨gb352, 1, none⟩ = some (.slice A0_1 l0_1.length c0_1) := (blk_cell BK352.out 1).trans rfl
                                        have hcz106_2 : wc.cell? ⟨gb352, 2, none⟩ = some (.slice A0_2 l0_2.length c0_2) := (blk_cell BK352.out 2).trans rfl
                                        have hcz106_3 : wc.cell? ⟨gb352, 3, none⟩ = some (.int .i64 a0_3) := (blk_cell BK352.out 3).trans rfl
                                        have hfz106_0 := blk_frozen BK352.out 0
                                        have hfz106_1 := blk_frozen BK352.out 1
                                        have hfz106_2 := blk_frozen BK352.out 2
                                        have hfz106_3 := blk_frozen BK352.out 3
                                        have p359 : 0 ≤ (((rd_T33 t355 (ji27)).f0) : Int) := of_decide_eq_true (by first | (with_reducible assumption) | assumption)
                                        have q359 : ((rd_T33 t355 (ji27)).f0) < (l0_0.length : Int) := of_decide_eq_true (by first | (with_reducible assumption) | assumption)
                                        obtain ⟨ad359, e359, hx359_0, hx359_1, hx359_2, hx359_3, hx359_4, hx359_5, hx359_6, hx359_7⟩ := at_T38 HR0_0.out ((rd_T33 t355 (ji27)).f0) p359 q359
                                        cases e359
                                        replace hx359_0 := (HB.out.cell (World.block_lt_of_cell? w _ hx359_0)).trans hx359_0
                                        replace hx359_1 := (HB.out.cell (World.block_lt_of_cell? w _ hx359_1)).trans hx359_1
                                        replace hx359_2 := (HB.out.cell (World.block_lt_of_cell? w _ hx359_2)).trans hx359_2
                                        replace hx359_3 := (HB.out.cell (World.block_lt_of_cell? w _ hx359_3)).trans hx359_3
                                        replace hx359_4 := (HB.out.cell (World.block_lt_of_cell? w _ hx359_4)).trans hx359_4
                                        replace hx359_5 := (HB.out.cell (World.block_lt_of_cell? w _ hx359_5)).trans hx359_5
                                        replace hx359_6 := (HB.out.cell (World.block_lt_of_cell? w _ hx359_6)).trans hx359_6
                                        replace hx359_7 := (HB.out.cell (World.block_lt_of_cell? w _ hx359_7)).trans hx359_7
                                        replace p359 := eq_true p359
                                        replace q359 := eq_true q359
                                        go_wp2_with (first | ((with_reducible refine gate_dst (N := 6) rfl ?_); (try (refine gate_guard (by rfl) ?_; dsimp only)); refine box_event ?hg (N := 6) ?hd (cs := #[.int .i64 0, .string (⟨#[]⟩ : ByteArray), .string (⟨#[]⟩ : ByteArray), .string (⟨#[]⟩ : ByteArray), .string (⟨#[]⟩ : ByteArray), .int .i64 0, .int .i64 0, .int .i64 0]) (t := 38) ?hr ?_; (case hd => rfl); (case hg => rfl); (case hr => first | (go_simp; done) | (go_simp; rfl)); intro gb360 hg w107 hbox hb; have n0_ := Aside0.mk (blk_below (g := gb352) (o := .cells #[.slice (some ad359) l0_0.length c0_0, .slice A0_1 l0_1.length c0_1, .slice A0_2 l0_2.length c0_2, .int .i64 a0_3] 26 (0, 0)) (by (with_reducible repeat (first | refine blk_drewN ?_ _ | refine blk_drew ?_ | refine blk_alloc ?_ _)); exact BK352.out) hb); have n1_ := Aside0.mk (Kd.C_below (by repeat (first | (with_reducible exact HR358_1.out) | (with_reducible refine Kd.C_alloc ?_ _) | (with_reducible refine Kd.C_drewN ?_ _) | (with_reducible refine Kd.C_drew ?_) | exact HR358_1.out)) hb); have n2_ := Aside0.mk (below_step (by repeat (first | (with_reducible first | exact HB.out | apply below_alloc | apply pw_below_drewN | apply below_drew1 | refine below_set ?_ GE352.out) | exact HB.out)) hb); have n3_ := Aside0.mk (hbox); have n4_ := Aside0.mk ((by rw [hg]; exact (below_size (by repeat (first | (with_reducible first | exact HB.out | apply below_alloc | apply pw_below_drewN | apply below_drew1 | refine below_set ?_ GE352.out) | exact HB.out))) : w.heap.size ≤ gb360)); have n5_ := Aside0.mk ((by rw [hg]; exact (below_size (by repeat (first | (with_reducible first | exact HB.out | apply below_alloc | apply pw_below_drewN | apply below_drew1 | refine below_set ?_ GE352.out) | exact HB.out))) : w.heap.size ≤ gb360)); have n6_ := Aside0.mk ((by rw [hg]; exact Nat.ne_of_lt (blk_lt (g := gb352) (o := .cells #[.slice (some ad359) l0_0.length c0_0, .slice A0_1 l0_1.length c0_1, .slice A0_2 l0_2.length c0_2, .int .i64 a0_3] 26 (0, 0)) (by (with_reducible repeat (first | refine blk_drewN ?_ _ | refine blk_drew ?_ | refine blk_alloc ?_ _)); exact BK352.out)) : gb352 ≠ gb360)); have n7_ := Aside0.mk ((by rw [hg]; exact Nat.ne_of_gt (blk_lt (g := gb352) (o := .cells #[.slice (some ad359) l0_0.length c0_0, .slice A0_1 l0_1.length c0_1, .slice A0_2 l0_2.length c0_2, .int .i64 a0_3] 26 (0, 0)) (by (with_reducible repeat (first | refine blk_drewN ?_ _ | refine blk_drew ?_ | refine blk_alloc ?_ _)); exact BK352.out)) : gb360 ≠ gb352)); clear BK352; clear HR358_1; clear HB; have BK352 := n0_; have HR358_1 := n1_; have HB := n2_; have BK360 := n3_; have GW360 := n4_; have GE360 := n5_; have NB352_360 := n6_; have NB360_352 := n7_; clear n0_ n1_ n2_ n3_ n4_ n5_ n6_ n7_; clear hb hbox hg; have hnb108 := NB360_352.out; have hnc108 := NB352_360.out; have hcz109_0 : w107.cell? ⟨gb360, 0, none⟩ = some (.int .i64 0) := (blk_cell BK360.out 0).trans rfl; have hcz109_1 : w107.cell? ⟨gb360, 1, none⟩ = some (.string (⟨#[]⟩ : ByteArray)) := (blk_cell BK360.out 1).trans rfl; have hcz109_2 : w107.cell? ⟨gb360, 2, none⟩ = some (.string (⟨#[]⟩ : ByteArray)) := (blk_cell BK360.out 2).trans rfl; have hcz109_3 : w107.cell? ⟨gb360, 3, none⟩ = some (.string (⟨#[]⟩ : ByteArray)) := (blk_cell BK360.out 3).trans rfl; have hcz109_4 : w107.cell? ⟨gb360, 4, none⟩ = some (.string (⟨#[]⟩ : ByteArray)) := (blk_cell BK360.out 4).trans rfl; have hcz109_5 : w107.cell? ⟨gb360, 5, none⟩ = some (.int .i64 0) := (blk_cell BK360.out 5).trans rfl; have hcz109_6 : w107.cell? ⟨gb360, 6, none⟩ = some (.int .i64 0) := (blk_cell BK360.out 6).trans rfl; have hcz109_7 : w107.cell? ⟨gb360, 7, none⟩ = some (.int .i64 0) := (blk_cell BK360.out 7).trans rfl; have hfz109_0 := blk_frozen BK360.out 0; have hfz109_1 := blk_frozen BK360.out 1; have hfz109_2 := blk_frozen BK360.out 2; have hfz109_3 := blk_frozen BK360.out 3; have hfz109_4 := blk_frozen BK360.out 4; have hfz109_5 := blk_frozen BK360.out 5; have hfz109_6 := blk_frozen BK360.out 6; have hfz109_7 := blk_frozen BK360.out 7; have hcz110_0 : w107.cell? ⟨gb352, 0, none⟩ = some (.slice (some ad359) l0_0.length c0_0) := (blk_cell BK352.out 0).trans rfl; have hcz110_1 : w107.cell? ⟨gb352, 1, none⟩ = some (.slice A0_1 l0_1.length c0_1) := (blk_cell BK352.out 1).trans rfl; have hcz110_2 : w107.cell? ⟨gb352, 2, none⟩ = some (.slice A0_2 l0_2.length c0_2) := (blk_cell BK352.out 2).trans rfl; have hcz110_3 : w107.cell? ⟨gb352, 3, none⟩ = some (.int .i64 a0_3) := (blk_cell BK352.out 3).trans rfl; have hfz110_0 := blk_frozen BK352.out 0; have hfz110_1 := blk_frozen BK352.out 1; have hfz110_2 := blk_frozen BK352.out 2; have hfz110_3 := blk_frozen BK352.out 3))
                                        go_ret
                                        exact ⟨by first | rfl | (simp [errW_none, errW_some] <;> rfl) | (simp only [← hji27]; first | rfl | (simp [errW_none, errW_some] <;> rfl)) | (simp [*, errW_none, errW_some] <;> rfl), by repeat (first | (with_reducible first | exact HB.out | apply below_alloc | apply pw_below_drewN | apply below_drew1 | refine below_set ?_ GE352.out | refine below_set ?_ GE360.out) | exact HB.out)⟩
                                      · replace c105 := Bool.eq_false_iff.mpr c105
                                        subst c105
                                        have H1 : (some false) = some r := by rw [if_neg (show ¬ (false = true) by decide)] at H; exact H
                                        clear H
                                        have H := H1
                                        clear H1
                                        obtain rfl := Option.some.inj H
                                        have hcz111_0 : wc.cell? ⟨gb352, 0, none⟩ = some (.slice A0_0 l0_0.length c0_0) := (blk_cell BK352.out 0).trans rfl
                                        have hcz111_1 : wc.cell? ⟨gb352, 1, none⟩ = some (.slice A0_1 l0_1.length c0_1) := (blk_cell BK352.out 1).trans rfl
                                        have hcz111_2 : wc.cell? ⟨gb352, 2, none⟩ = some (.slice A0_2 l0_2.length c0_2) := (blk_cell BK352.out 2).trans rfl
                                        have hcz111_3 : wc.cell? ⟨gb352, 3, none⟩ = some (.int .i64 a0_3) := (blk_cell BK352.out 3).trans rfl
                                        have hfz111_0 := blk_frozen BK352.out 0
                                        have hfz111_1 := blk_frozen BK352.out 1
                                        have hfz111_2 := blk_frozen BK352.out 2
                                        have hfz111_3 := blk_frozen BK352.out 3
                                        have p359 : 0 ≤ (((rd_T33 t355 (ji27)).f0) : Int) := of_decide_eq_true (by first | (with_reducible assumption) | assumption)
                                        have q359 : ((rd_T33 t355 (ji27)).f0) < (l0_0.length : Int) := of_decide_eq_true (by first | (with_reducible assumption) | assumption)
                                        obtain ⟨ad359, e359, hx359_0, hx359_1, hx359_2, hx359_3, hx359_4, hx359_5, hx359_6, hx359_7⟩ := at_T38 HR0_0.out ((rd_T33 t355 (ji27)).f0) p359 q359
                                        cases e359
                                        replace hx359_0 := (HB.out.cell (World.block_lt_of_cell? w _ hx359_0)).trans hx359_0
                                        replace hx359_1 := (HB.out.cell (World.block_lt_of_cell? w _ hx359_1)).trans hx359_1
                                        replace hx359_2 := (HB.out.cell (World.block_lt_of_cell? w _ hx359_2)).trans hx359_2
                                        replace hx359_3 := (HB.out.cell (World.block_lt_of_cell? w _ hx359_3)).trans hx359_3
                                        replace hx359_4 := (HB.out.cell (World.block_lt_of_cell? w _ hx359_4)).trans hx359_4
                                        replace hx359_5 := (HB.out.cell (World.block_lt_of_cell? w _ hx359_5)).trans hx359_5
                                        replace hx359_6 := (HB.out.cell (World.block_lt_of_cell? w _ hx359_6)).trans hx359_6
                                        replace hx359_7 := (HB.out.cell (World.block_lt_of_cell? w _ hx359_7)).trans hx359_7
                                        replace p359 := eq_true p359
                                        replace q359 := eq_true q359
                                        go_wp2_with (first | ((with_reducible refine gate_dst (N := 6) rfl ?_); (try (refine gate_guard (by rfl) ?_; dsimp only)); refine box_event ?hg (N := 6) ?hd (cs := #[.int .i64 0, .string (⟨#[]⟩ : ByteArray), .string (⟨#[]⟩ : ByteArray), .string (⟨#[]⟩ : ByteArray), .string (⟨#[]⟩ : ByteArray), .int .i64 0, .int .i64 0, .int .i64 0]) (t := 38) ?hr ?_; (case hd => rfl); (case hg => rfl); (case hr => first | (go_simp; done) | (go_simp; rfl)); intro gb360 hg w112 hbox hb; have n0_ := Aside0.mk (blk_below (g := gb352) (o := .cells #[.slice (some ad359) l0_0.length c0_0, .slice A0_1 l0_1.length c0_1, .slice A0_2 l0_2.length c0_2, .int .i64 a0_3] 26 (0, 0)) (by (with_reducible repeat (first | refine blk_drewN ?_ _ | refine blk_drew ?_ | refine blk_alloc ?_ _)); exact BK352.out) hb); have n1_ := Aside0.mk (Kd.C_below (by repeat (first | (with_reducible exact HR358_1.out) | (with_reducible refine Kd.C_alloc ?_ _) | (with_reducible refine Kd.C_drewN ?_ _) | (with_reducible refine Kd.C_drew ?_) | exact HR358_1.out)) hb); have n2_ := Aside0.mk (below_step (by repeat (first | (with_reducible first | exact HB.out | apply below_alloc | apply pw_below_drewN | apply below_drew1 | refine below_set ?_ GE352.out) | exact HB.out)) hb); have n3_ := Aside0.mk (hbox); have n4_ := Aside0.mk ((by rw [hg]; exact (below_size (by repeat (first | (with_reducible first | exact HB.out | apply below_alloc | apply pw_below_drewN | apply below_drew1 | refine below_set ?_ GE352.out) | exact HB.out))) : w.heap.size ≤ gb360)); have n5_ := Aside0.mk ((by rw [hg]; exact (below_size (by repeat (first | (with_reducible first | exact HB.out | apply below_alloc | apply pw_below_drewN | apply below_drew1 | refine below_set ?_ GE352.out) | exact HB.out))) : w.heap.size ≤ gb360)); have n6_ := Aside0.mk ((by rw [hg]; exact Nat.ne_of_lt (blk_lt (g := gb352) (o := .cells #[.slice (some ad359) l0_0.length c0_0, .slice A0_1 l0_1.length c0_1, .slice A0_2 l0_2.length c0_2, .int .i64 a0_3] 26 (0, 0)) (by (with_reducible repeat (first | refine blk_drewN ?_ _ | refine blk_drew ?_ | refine blk_alloc ?_ _)); exact BK352.out)) : gb352 ≠ gb360)); have n7_ := Aside0.mk ((by rw [hg]; exact Nat.ne_of_gt (blk_lt (g := gb352) (o := .cells #[.slice (some ad359) l0_0.length c0_0, .slice A0_1 l0_1.length c0_1, .slice A0_2 l0_2.length c0_2, .int .i64 a0_3] 26 (0, 0)) (by (with_reducible repeat (first | refine blk_drewN ?_ _ | refine blk_drew ?_ | refine blk_alloc ?_ _)); exact BK352.out)) : gb360 ≠ gb352)); clear BK352; clear HR358_1; clear HB; have BK352 := n0_; have HR358_1 := n1_; have HB := n2_; have BK360 := n3_; have GW360 := n4_; have GE360 := n5_; have NB352_360 := n6_; have NB360_352 := n7_; clear n0_ n1_ n2_ n3_ n4_ n5_ n6_ n7_; clear hb hbox hg; have hnb113 := NB360_352.out; have hnc113 := NB352_360.out; have hcz114_0 : w112.cell? ⟨gb360, 0, none⟩ = some (.int .i64 0) := (blk_cell BK360.out 0).trans rfl; have hcz114_1 : w112.cell? ⟨gb360, 1, none⟩ = some (.string (⟨#[]⟩ : ByteArray)) := (blk_cell BK360.out 1).trans rfl; have hcz114_2 : w112.cell? ⟨gb360, 2, none⟩ = some (.string (⟨#[]⟩ : ByteArray)) := (blk_cell BK360.out 2).trans rfl; have hcz114_3 : w112.cell? ⟨gb360, 3, none⟩ = some (.string (⟨#[]⟩ : ByteArray)) := (blk_cell BK360.out 3).trans rfl; have hcz114_4 : w112.cell? ⟨gb360, 4, none⟩ = some (.string (⟨#[]⟩ : ByteArray)) := (blk_cell BK360.out 4).trans rfl; have hcz114_5 : w112.cell? ⟨gb360, 5, none⟩ = some (.int .i64 0) := (blk_cell BK360.out 5).trans rfl; have hcz114_6 : w112.cell? ⟨gb360, 6, none⟩ = some (.int .i64 0) := (blk_cell BK360.out 6).trans rfl; have hcz114_7 : w112.cell? ⟨gb360, 7, none⟩ = some (.int .i64 0) := (blk_cell BK360.out 7).trans rfl; have hfz114_0 := blk_frozen BK360.out 0; have hfz114_1 := blk_frozen BK360.out 1; have hfz114_2 := blk_frozen BK360.out 2; have hfz114_3 := blk_frozen BK360.out 3; have hfz114_4 := blk_frozen BK360.out 4; have hfz114_5 := blk_frozen BK360.out 5; have hfz114_6 := blk_frozen BK360.out 6; have hfz114_7 := blk_frozen BK360.out 7; have hcz115_0 : w112.cell? ⟨gb352, 0, none⟩ = some (.slice (some ad359) l0_0.length c0_0) := (blk_cell BK352.out 0).trans rfl; have hcz115_1 : w112.cell? ⟨gb352, 1, none⟩ = some (.slice A0_1 l0_1.length c0_1) := (blk_cell BK352.out 1).trans rfl; have hcz115_2 : w112.cell? ⟨gb352, 2, none⟩ = some (.slice A0_2 l0_2.length c0_2) := (blk_cell BK352.out 2).trans rfl; have hcz115_3 : w112.cell? ⟨gb352, 3, none⟩ = some (.int .i64 a0_3) := (blk_cell BK352.out 3).trans rfl; have hfz115_0 := blk_frozen BK352.out 0; have hfz115_1 := blk_frozen BK352.out 1; have hfz115_2 := blk_frozen BK352.out 2; have hfz115_3 := blk_frozen BK352.out 3))
                                        go_ret
                                        exact ⟨by first | rfl | (simp [errW_none, errW_some] <;> rfl) | (simp only [← hji27]; first | rfl | (simp [errW_none, errW_some] <;> rfl)) | (simp [*, errW_none, errW_some] <;> rfl), by repeat (first | (with_reducible first | exact HB.out | apply below_alloc | apply pw_below_drewN | apply below_drew1 | refine below_set ?_ GE352.out | refine below_set ?_ GE360.out) | exact HB.out)⟩
                                    · rw [if_neg c104] at H
                                      have c104b0 : decide ((l0_0.length : Int) ≤ ((rd_T38 l0_0 ((rd_T33 t355 (ji27)).f0)).f6)) = false := decide_eq_false c104
                                      clear c104
                                      by_cases c116 : t353 = true
                                      · subst c116
                                        have H1 : (some (((rd_T38 l0_0 ((rd_T33 t355 (ji27)).f0)).f0) == 9)) = some r := by rw [if_pos rfl] at H; exact H
                                        clear H
                                        have H := H1
                                        clear H1
                                        obtain rfl := Option.some.inj H
                                        have hcz117_0 : wc.cell? ⟨gb352, 0, none⟩ = some (.slice A0_0 l0_0.length c0_0) := (blk_cell BK352.out 0).trans rfl
                                        have hcz117_1 : wc.cell? ⟨gb352, 1, none⟩ = some (.slice A0_1 l0_1.length c0_1) := (blk_cell BK352.out 1).trans rfl
                                        have hcz117_2 : wc.cell? ⟨gb352, 2, none⟩ = some (.slice A0_2 l0_2.length c0_2) := (blk_cell BK352.out 2).trans rfl
                                        have hcz117_3 : wc.cell? ⟨gb352, 3, none⟩ = some (.int .i64 a0_3) := (blk_cell BK352.out 3).trans rfl
                                        have hfz117_0 := blk_frozen BK352.out 0
                                        have hfz117_1 := blk_frozen BK352.out 1
                                        have hfz117_2 := blk_frozen BK352.out 2
                                        have hfz117_3 := blk_frozen BK352.out 3
                                        have p359 : 0 ≤ (((rd_T33 t355 (ji27)).f0) : Int) := of_decide_eq_true (by first | (with_reducible assumption) | assumption)
                                        have q359 : ((rd_T33 t355 (ji27)).f0) < (l0_0.length : Int) := of_decide_eq_true (by first | (with_reducible assumption) | assumption)
                                        obtain ⟨ad359, e359, hx359_0, hx359_1, hx359_2, hx359_3, hx359_4, hx359_5, hx359_6, hx359_7⟩ := at_T38 HR0_0.out ((rd_T33 t355 (ji27)).f0) p359 q359
                                        cases e359
                                        replace hx359_0 := (HB.out.cell (World.block_lt_of_cell? w _ hx359_0)).trans hx359_0
                                        replace hx359_1 := (HB.out.cell (World.block_lt_of_cell? w _ hx359_1)).trans hx359_1
                                        replace hx359_2 := (HB.out.cell (World.block_lt_of_cell? w _ hx359_2)).trans hx359_2
                                        replace hx359_3 := (HB.out.cell (World.block_lt_of_cell? w _ hx359_3)).trans hx359_3
                                        replace hx359_4 := (HB.out.cell (World.block_lt_of_cell? w _ hx359_4)).trans hx359_4
                                        replace hx359_5 := (HB.out.cell (World.block_lt_of_cell? w _ hx359_5)).trans hx359_5
                                        replace hx359_6 := (HB.out.cell (World.block_lt_of_cell? w _ hx359_6)).trans hx359_6
                                        replace hx359_7 := (HB.out.cell (World.block_lt_of_cell? w _ hx359_7)).trans hx359_7
                                        replace p359 := eq_true p359
                                        replace q359 := eq_true q359
                                        go_wp2_with (first | ((with_reducible refine gate_dst (N := 6) rfl ?_); (try (refine gate_guard (by rfl) ?_; dsimp only)); refine box_event ?hg (N := 6) ?hd (cs := #[.int .i64 0, .string (⟨#[]⟩ : ByteArray), .string (⟨#[]⟩ : ByteArray), .string (⟨#[]⟩ : ByteArray), .string (⟨#[]⟩ : ByteArray), .int .i64 0, .int .i64 0, .int .i64 0]) (t := 38) ?hr ?_; (case hd => rfl); (case hg => rfl); (case hr => first | (go_simp; done) | (go_simp; rfl)); intro gb360 hg w118 hbox hb; have n0_ := Aside0.mk (blk_below (g := gb352) (o := .cells #[.slice (some ad359) l0_0.length c0_0, .slice A0_1 l0_1.length c0_1, .slice A0_2 l0_2.length c0_2, .int .i64 a0_3] 26 (0, 0)) (by (with_reducible repeat (first | refine blk_drewN ?_ _ | refine blk_drew ?_ | refine blk_alloc ?_ _)); exact BK352.out) hb); have n1_ := Aside0.mk (Kd.C_below (by repeat (first | (with_reducible exact HR358_1.out) | (with_reducible refine Kd.C_alloc ?_ _) | (with_reducible refine Kd.C_drewN ?_ _) | (with_reducible refine Kd.C_drew ?_) | exact HR358_1.out)) hb); have n2_ := Aside0.mk (below_step (by repeat (first | (with_reducible first | exact HB.out | apply below_alloc | apply pw_below_drewN | apply below_drew1 | refine below_set ?_ GE352.out) | exact HB.out)) hb); have n3_ := Aside0.mk (hbox); have n4_ := Aside0.mk ((by rw [hg]; exact (below_size (by repeat (first | (with_reducible first | exact HB.out | apply below_alloc | apply pw_below_drewN | apply below_drew1 | refine below_set ?_ GE352.out) | exact HB.out))) : w.heap.size ≤ gb360)); have n5_ := Aside0.mk ((by rw [hg]; exact (below_size (by repeat (first | (with_reducible first | exact HB.out | apply below_alloc | apply pw_below_drewN | apply below_drew1 | refine below_set ?_ GE352.out) | exact HB.out))) : w.heap.size ≤ gb360)); have n6_ := Aside0.mk ((by rw [hg]; exact Nat.ne_of_lt (blk_lt (g := gb352) (o := .cells #[.slice (some ad359) l0_0.length c0_0, .slice A0_1 l0_1.length c0_1, .slice A0_2 l0_2.length c0_2, .int .i64 a0_3] 26 (0, 0)) (by (with_reducible repeat (first | refine blk_drewN ?_ _ | refine blk_drew ?_ | refine blk_alloc ?_ _)); exact BK352.out)) : gb352 ≠ gb360)); have n7_ := Aside0.mk ((by rw [hg]; exact Nat.ne_of_gt (blk_lt (g := gb352) (o := .cells #[.slice (some ad359) l0_0.length c0_0, .slice A0_1 l0_1.length c0_1, .slice A0_2 l0_2.length c0_2, .int .i64 a0_3] 26 (0, 0)) (by (with_reducible repeat (first | refine blk_drewN ?_ _ | refine blk_drew ?_ | refine blk_alloc ?_ _)); exact BK352.out)) : gb360 ≠ gb352)); clear BK352; clear HR358_1; clear HB; have BK352 := n0_; have HR358_1 := n1_; have HB := n2_; have BK360 := n3_; have GW360 := n4_; have GE360 := n5_; have NB352_360 := n6_; have NB360_352 := n7_; clear n0_ n1_ n2_ n3_ n4_ n5_ n6_ n7_; clear hb hbox hg; have hnb119 := NB360_352.out; have hnc119 := NB352_360.out; have hcz120_0 : w118.cell? ⟨gb360, 0, none⟩ = some (.int .i64 0) := (blk_cell BK360.out 0).trans rfl; have hcz120_1 : w118.cell? ⟨gb360, 1, none⟩ = some (.string (⟨#[]⟩ : ByteArray)) := (blk_cell BK360.out 1).trans rfl; have hcz120_2 : w118.cell? ⟨gb360, 2, none⟩ = some (.string (⟨#[]⟩ : ByteArray)) := (blk_cell BK360.out 2).trans rfl; have hcz120_3 : w118.cell? ⟨gb360, 3, none⟩ = some (.string (⟨#[]⟩ : ByteArray)) := (blk_cell BK360.out 3).trans rfl; have hcz120_4 : w118.cell? ⟨gb360, 4, none⟩ = some (.string (⟨#[]⟩ : ByteArray)) := (blk_cell BK360.out 4).trans rfl; have hcz120_5 : w118.cell? ⟨gb360, 5, none⟩ = some (.int .i64 0) := (blk_cell BK360.out 5).trans rfl; have hcz120_6 : w118.cell? ⟨gb360, 6, none⟩ = some (.int .i64 0) := (blk_cell BK360.out 6).trans rfl; have hcz120_7 : w118.cell? ⟨gb360, 7, none⟩ = some (.int .i64 0) := (blk_cell BK360.out 7).trans rfl; have hfz120_0 := blk_frozen BK360.out 0; have hfz120_1 := blk_frozen BK360.out 1; have hfz120_2 := blk_frozen BK360.out 2; have hfz120_3 := blk_frozen BK360.out 3; have hfz120_4 := blk_frozen BK360.out 4; have hfz120_5 := blk_frozen BK360.out 5; have hfz120_6 := blk_frozen BK360.out 6; have hfz120_7 := blk_frozen BK360.out 7; have hcz121_0 : w118.cell? ⟨gb352, 0, none⟩ = some (.slice (some ad359) l0_0.length c0_0) := (blk_cell BK352.out 0).trans rfl; have hcz121_1 : w118.cell? ⟨gb352, 1, none⟩ = some (.slice A0_1 l0_1.length c0_1) := (blk_cell BK352.out 1).trans rfl; have hcz121_2 : w118.cell? ⟨gb352, 2, none⟩ = some (.slice A0_2 l0_2.length c0_2) := (blk_cell BK352.out 2).trans rfl; have hcz121_3 : w118.cell? ⟨gb352, 3, none⟩ = some (.int .i64 a0_3) := (blk_cell BK352.out 3).trans rfl; have hfz121_0 := blk_frozen BK352.out 0; have hfz121_1 := blk_frozen BK352.out 1; have hfz121_2 := blk_frozen BK352.out 2; have hfz121_3 := blk_frozen BK352.out 3))
                                        go_ret
                                        exact ⟨by first | rfl | (simp [errW_none, errW_some] <;> rfl) | (simp only [← hji27]; first | rfl | (simp [errW_none, errW_some] <;> rfl)) | (simp [*, errW_none, errW_some] <;> rfl), by repeat (first | (with_reducible first | exact HB.out | apply below_alloc | apply pw_below_drewN | apply below_drew1 | refine below_set ?_ GE352.out | refine below_set ?_ GE360.out) | exact HB.out)⟩
                                      · replace c116 := Bool.eq_false_iff.mpr c116
                                        subst c116
                                        have H1 : (some false) = some r := by rw [if_neg (show ¬ (false = true) by decide)] at H; exact H
                                        clear H
                                        have H := H1
                                        clear H1
                                        obtain rfl := Option.some.inj H
                                        have hcz122_0 : wc.cell? ⟨gb352, 0, none⟩ = some (.slice A0_0 l0_0.length c0_0) := (blk_cell BK352.out 0).trans rfl
                                        have hcz122_1 : wc.cell? ⟨gb352, 1, none⟩ = some (.slice A0_1 l0_1.length c0_1) := (blk_cell BK352.out 1).trans rfl
                                        have hcz122_2 : wc.cell? ⟨gb352, 2, none⟩ = some (.slice A0_2 l0_2.length c0_2) := (blk_cell BK352.out 2).trans rfl
                                        have hcz122_3 : wc.cell? ⟨gb352, 3, none⟩ = some (.int .i64 a0_3) := (blk_cell BK352.out 3).trans rfl
                                        have hfz122_0 := blk_frozen BK352.out 0
                                        have hfz122_1 := blk_frozen BK352.out 1
                                        have hfz122_2 := blk_frozen BK352.out 2
                                        have hfz122_3 := blk_frozen BK352.out 3
                                        have p359 : 0 ≤ (((rd_T33 t355 (ji27)).f0) : Int) := of_decide_eq_true (by first | (with_reducible assumption) | assumption)
                                        have q359 : ((rd_T33 t355 (ji27)).f0) < (l0_0.length : Int) := of_decide_eq_true (by first | (with_reducible assumption) | assumption)
                                        obtain ⟨ad359, e359, hx359_0, hx359_1, hx359_2, hx359_3, hx359_4, hx359_5, hx359_6, hx359_7⟩ := at_T38 HR0_0.out ((rd_T33 t355 (ji27)).f0) p359 q359
                                        cases e359
                                        replace hx359_0 := (HB.out.cell (World.block_lt_of_cell? w _ hx359_0)).trans hx359_0
                                        replace hx359_1 := (HB.out.cell (World.block_lt_of_cell? w _ hx359_1)).trans hx359_1
                                        replace hx359_2 := (HB.out.cell (World.block_lt_of_cell? w _ hx359_2)).trans hx359_2
                                        replace hx359_3 := (HB.out.cell (World.block_lt_of_cell? w _ hx359_3)).trans hx359_3
                                        replace hx359_4 := (HB.out.cell (World.block_lt_of_cell? w _ hx359_4)).trans hx359_4
                                        replace hx359_5 := (HB.out.cell (World.block_lt_of_cell? w _ hx359_5)).trans hx359_5
                                        replace hx359_6 := (HB.out.cell (World.block_lt_of_cell? w _ hx359_6)).trans hx359_6
                                        replace hx359_7 := (HB.out.cell (World.block_lt_of_cell? w _ hx359_7)).trans hx359_7
                                        replace p359 := eq_true p359
                                        replace q359 := eq_true q359
                                        go_wp2_with (first | ((with_reducible refine gate_dst (N := 6) rfl ?_); (try (refine gate_guard (by rfl) ?_; dsimp only)); refine box_event ?hg (N := 6) ?hd (cs := #[.int .i64 0, .string (⟨#[]⟩ : ByteArray), .string (⟨#[]⟩ : ByteArray), .string (⟨#[]⟩ : ByteArray), .string (⟨#[]⟩ : ByteArray), .int .i64 0, .int .i64 0, .int .i64 0]) (t := 38) ?hr ?_; (case hd => rfl); (case hg => rfl); (case hr => first | (go_simp; done) | (go_simp; rfl)); intro gb360 hg w123 hbox hb; have n0_ := Aside0.mk (blk_below (g := gb352) (o := .cells #[.slice (some ad359) l0_0.length c0_0, .slice A0_1 l0_1.length c0_1, .slice A0_2 l0_2.length c0_2, .int .i64 a0_3] 26 (0, 0)) (by (with_reducible repeat (first | refine blk_drewN ?_ _ | refine blk_drew ?_ | refine blk_alloc ?_ _)); exact BK352.out) hb); have n1_ := Aside0.mk (Kd.C_below (by repeat (first | (with_reducible exact HR358_1.out) | (with_reducible refine Kd.C_alloc ?_ _) | (with_reducible refine Kd.C_drewN ?_ _) | (with_reducible refine Kd.C_drew ?_) | exact HR358_1.out)) hb); have n2_ := Aside0.mk (below_step (by repeat (first | (with_reducible first | exact HB.out | apply below_alloc | apply pw_below_drewN | apply below_drew1 | refine below_set ?_ GE352.out) | exact HB.out)) hb); have n3_ := Aside0.mk (hbox); have n4_ := Aside0.mk ((by rw [hg]; exact (below_size (by repeat (first | (with_reducible first | exact HB.out | apply below_alloc | apply pw_below_drewN | apply below_drew1 | refine below_set ?_ GE352.out) | exact HB.out))) : w.heap.size ≤ gb360)); have n5_ := Aside0.mk ((by rw [hg]; exact (below_size (by repeat (first | (with_reducible first | exact HB.out | apply below_alloc | apply pw_below_drewN | apply below_drew1 | refine below_set ?_ GE352.out) | exact HB.out))) : w.heap.size ≤ gb360)); have n6_ := Aside0.mk ((by rw [hg]; exact Nat.ne_of_lt (blk_lt (g := gb352) (o := .cells #[.slice (some ad359) l0_0.length c0_0, .slice A0_1 l0_1.length c0_1, .slice A0_2 l0_2.length c0_2, .int .i64 a0_3] 26 (0, 0)) (by (with_reducible repeat (first | refine blk_drewN ?_ _ | refine blk_drew ?_ | refine blk_alloc ?_ _)); exact BK352.out)) : gb352 ≠ gb360)); have n7_ := Aside0.mk ((by rw [hg]; exact Nat.ne_of_gt (blk_lt (g := gb352) (o := .cells #[.slice (some ad359) l0_0.length c0_0, .slice A0_1 l0_1.length c0_1, .slice A0_2 l0_2.length c0_2, .int .i64 a0_3] 26 (0, 0)) (by (with_reducible repeat (first | refine blk_drewN ?_ _ | refine blk_drew ?_ | refine blk_alloc ?_ _)); exact BK352.out)) : gb360 ≠ gb352)); clear BK352; clear HR358_1; clear HB; have BK352 := n0_; have HR358_1 := n1_; have HB := n2_; have BK360 := n3_; have GW360 := n4_; have GE360 := n5_; have NB352_360 := n6_; have NB360_352 := n7_; clear n0_ n1_ n2_ n3_ n4_ n5_ n6_ n7_; clear hb hbox hg; have hnb124 := NB360_352.out; have hnc124 := NB352_360.out; have hcz125_0 : w123.cell? ⟨gb360, 0, none⟩ = some (.int .i64 0) := (blk_cell BK360.out 0).trans rfl; have hcz125_1 : w123.cell? ⟨gb360, 1, none⟩ = some (.string (⟨#[]⟩ : ByteArray)) := (blk_cell BK360.out 1).trans rfl; have hcz125_2 : w123.cell? ⟨gb360, 2, none⟩ = some (.string (⟨#[]⟩ : ByteArray)) := (blk_cell BK360.out 2).trans rfl; have hcz125_3 : w123.cell? ⟨gb360, 3, none⟩ = some (.string (⟨#[]⟩ : ByteArray)) := (blk_cell BK360.out 3).trans rfl; have hcz125_4 : w123.cell? ⟨gb360, 4, none⟩ = some (.string (⟨#[]⟩ : ByteArray)) := (blk_cell BK360.out 4).trans rfl; have hcz125_5 : w123.cell? ⟨gb360, 5, none⟩ = some (.int .i64 0) := (blk_cell BK360.out 5).trans rfl; have hcz125_6 : w123.cell? ⟨gb360, 6, none⟩ = some (.int .i64 0) := (blk_cell BK360.out 6).trans rfl; have hcz125_7 : w123.cell? ⟨gb360, 7, none⟩ = some (.int .i64 0) := (blk_cell BK360.out 7).trans rfl; have hfz125_0 := blk_frozen BK360.out 0; have hfz125_1 := blk_frozen BK360.out 1; have hfz125_2 := blk_frozen BK360.out 2; have hfz125_3 := blk_frozen BK360.out 3; have hfz125_4 := blk_frozen BK360.out 4; have hfz125_5 := blk_frozen BK360.out 5; have hfz125_6 := blk_frozen BK360.out 6; have hfz125_7 := blk_frozen BK360.out 7; have hcz126_0 : w123.cell? ⟨gb352, 0, none⟩ = some (.slice (some ad359) l0_0.length c0_0) := (blk_cell BK352.out 0).trans rfl; have hcz126_1 : w123.cell? ⟨gb352, 1, none⟩ = some (.slice A0_1 l0_1.length c0_1) := (blk_cell BK352.out 1).trans rfl; have hcz126_2 : w123.cell? ⟨gb352, 2, none⟩ = some (.slice A0_2 l0_2.length c0_2) := (blk_cell BK352.out 2).trans rfl; have hcz126_3 : w123.cell? ⟨gb352, 3, none⟩ = some (.int .i64 a0_3) := (blk_cell BK352.out 3).trans rfl; have hfz126_0 := blk_frozen BK352.out 0; have hfz126_1 := blk_frozen BK352.out 1; have hfz126_2 := blk_frozen BK352.out 2; have hfz126_3 := blk_frozen BK352.out 3))
                                        go_ret
                                        exact ⟨by first | rfl | (simp [errW_none, errW_some] <;> rfl) | (simp only [← hji27]; first | rfl | (simp [errW_none, errW_some] <;> rfl)) | (simp [*, errW_none, errW_some] <;> rfl), by repeat (first | (with_reducible first | exact HB.out | apply below_alloc | apply pw_below_drewN | apply below_drew1 | refine below_set ?_ GE352.out | refine below_set ?_ GE360.out) | exact HB.out)⟩
                                · rw [if_neg c91] at H
                                  have c91b0 : (((rd_T38 l0_0 ((rd_T33 t355 (ji27)).f0)).f0) == 8) = false := beq_eq_false_iff_ne.mpr c91
                                  have c91b1 : (((rd_T38 l0_0 ((rd_T33 t355 (ji27)).f0)).f0) != 8) = true := bne_iff_ne.mpr c91
                                  by_cases c127 : t353 = true
                                  · subst c127
                                    have H1 : (if ((rd_T33 t355 (ji27)).f0) = (wrap64 ((l0_0.length : Int) - 1)) then (some true) else (some (((rd_T38 l0_0 ((rd_T33 t355 (ji27)).f0)).f0) == 9))) = some r := by rw [if_pos rfl] at H; exact H
                                    clear H
                                    have H := H1
                                    clear H1
                                    by_cases c128 : ((rd_T33 t355 (ji27)).f0) = (wrap64 ((l0_0.length : Int) - 1))
                                    · rw [if_pos c128] at H
                                      have c128b0 : (((rd_T33 t355 (ji27)).f0) == (wrap64 ((l0_0.length : Int) - 1))) = true := beq_iff_eq.mpr c128
                                      have c128b1 : (((rd_T33 t355 (ji27)).f0) != (wrap64 ((l0_0.length : Int) - 1))) = false := bne_eq_false_iff_eq.mpr c128
                                      clear c128
                                      obtain rfl := Option.some.inj H
                                      have hcz129_0 : wc.cell? ⟨gb352, 0, none⟩ = some (.slice A0_0 l0_0.length c0_0) := (blk_cell BK352.out 0).trans rfl
                                      have hcz129_1 : wc.cell? ⟨gb352, 1, none⟩ = some (.slice A0_1 l0_1.length c0_1) := (blk_cell BK352.out 1).trans rfl
                                      have hcz129_2 : wc.cell? ⟨gb352, 2, none⟩ = some (.slice A0_2 l0_2.length c0_2) := (blk_cell BK352.out 2).trans rfl
                                      have hcz129_3 : wc.cell? ⟨gb352, 3, none⟩ = some (.int .i64 a0_3) := (blk_cell BK352.out 3).trans rfl
                                      have hfz129_0 := blk_frozen BK352.out 0
                                      have hfz129_1 := blk_frozen BK352.out 1
                                      have hfz129_2 := blk_frozen BK352.out 2
                                      have hfz129_3 := blk_frozen BK352.out 3
                                      have p359 : 0 ≤ (((rd_T33 t355 (ji27)).f0) : Int) := of_decide_eq_true (by first | (with_reducible assumption) | assumption)
                                      have q359 : ((rd_T33 t355 (ji27)).f0) < (l0_0.length : Int) := of_decide_eq_true (by first | (with_reducible assumption) | assumption)
                                      obtain ⟨ad359, e359, hx359_0, hx359_1, hx359_2, hx359_3, hx359_4, hx359_5, hx359_6, hx359_7⟩ := at_T38 HR0_0.out ((rd_T33 t355 (ji27)).f0) p359 q359
                                      cases e359
                                      replace hx359_0 := (HB.out.cell (World.block_lt_of_cell? w _ hx359_0)).trans hx359_0
                                      replace hx359_1 := (HB.out.cell (World.block_lt_of_cell? w _ hx359_1)).trans hx359_1
                                      replace hx359_2 := (HB.out.cell (World.block_lt_of_cell? w _ hx359_2)).trans hx359_2
                                      replace hx359_3 := (HB.out.cell (World.block_lt_of_cell? w _ hx359_3)).trans hx359_3
                                      replace hx359_4 := (HB.out.cell (World.block_lt_of_cell? w _ hx359_4)).trans hx359_4
                                      replace hx359_5 := (HB.out.cell (World.block_lt_of_cell? w _ hx359_5)).trans hx359_5
                                      replace hx359_6 := (HB.out.cell (World.block_lt_of_cell? w _ hx359_6)).trans hx359_6
                                      replace hx359_7 := (HB.out.cell (World.block_lt_of_cell? w _ hx359_7)).trans hx359_7
                                      replace p359 := eq_true p359
                                      replace q359 := eq_true q359
                                      go_wp2_with (first | ((with_reducible refine gate_dst (N := 6) rfl ?_); (try (refine gate_guard (by rfl) ?_; dsimp only)); refine box_event ?hg (N := 6) ?hd (cs := #[.int .i64 0, .string (⟨#[]⟩ : ByteArray), .string (⟨#[]⟩ : ByteArray), .string (⟨#[]⟩ : ByteArray), .string (⟨#[]⟩ : ByteArray), .int .i64 0, .int .i64 0, .int .i64 0]) (t := 38) ?hr ?_; (case hd => rfl); (case hg => rfl); (case hr => first | (go_simp; done) | (go_simp; rfl)); intro gb360 hg w130 hbox hb; have n0_ := Aside0.mk (blk_below (g := gb352) (o := .cells #[.slice (some ad359) l0_0.length c0_0, .slice A0_1 l0_1.length c0_1, .slice A0_2 l0_2.length c0_2, .int .i64 a0_3] 26 (0, 0)) (by (with_reducible repeat (first | refine blk_drewN ?_ _ | refine blk_drew ?_ | refine blk_alloc ?_ _)); exact BK352.out) hb); have n1_ := Aside0.mk (Kd.C_below (by repeat (first | (with_reducible exact HR358_1.out) | (with_reducible refine Kd.C_alloc ?_ _) | (with_reducible refine Kd.C_drewN ?_ _) | (with_reducible refine Kd.C_drew ?_) | exact HR358_1.out)) hb); have n2_ := Aside0.mk (below_step (by repeat (first | (with_reducible first | exact HB.out | apply below_alloc | apply pw_below_drewN | apply below_drew1 | refine below_set ?_ GE352.out) | exact HB.out)) hb); have n3_ := Aside0.mk (hbox); have n4_ := Aside0.mk ((by rw [hg]; exact (below_size (by repeat (first | (with_reducible first | exact HB.out | apply below_alloc | apply pw_below_drewN | apply below_drew1 | refine below_set ?_ GE352.out) | exact HB.out))) : w.heap.size ≤ gb360)); have n5_ := Aside0.mk ((by rw [hg]; exact (below_size (by repeat (first | (with_reducible first | exact HB.out | apply below_alloc | apply pw_below_drewN | apply below_drew1 | refine below_set ?_ GE352.out) | exact HB.out))) : w.heap.size ≤ gb360)); have n6_ := Aside0.mk ((by rw [hg]; exact Nat.ne_of_lt (blk_lt (g := gb352) (o := .cells #[.slice (some ad359) l0_0.length c0_0, .slice A0_1 l0_1.length c0_1, .slice A0_2 l0_2.length c0_2, .int .i64 a0_3] 26 (0, 0)) (by (with_reducible repeat (first | refine blk_drewN ?_ _ | refine blk_drew ?_ | refine blk_alloc ?_ _)); exact BK352.out)) : gb352 ≠ gb360)); have n7_ := Aside0.mk ((by rw [hg]; exact Nat.ne_of_gt (blk_lt (g := gb352) (o := .cells #[.slice (some ad359) l0_0.length c0_0, .slice A0_1 l0_1.length c0_1, .slice A0_2 l0_2.length c0_2, .int .i64 a0_3] 26 (0, 0)) (by (with_reducible repeat (first | refine blk_drewN ?_ _ | refine blk_drew ?_ | refine blk_alloc ?_ _)); exact BK352.out)) : gb360 ≠ gb352)); clear BK352; clear HR358_1; clear HB; have BK352 := n0_; have HR358_1 := n1_; have HB := n2_; have BK360 := n3_; have GW360 := n4_; have GE360 := n5_; have NB352_360 := n6_; have NB360_352 := n7_; clear n0_ n1_ n2_ n3_ n4_ n5_ n6_ n7_; clear hb hbox hg; have hnb131 := NB360_352.out; have hnc131 := NB352_360.out; have hcz132_0 : w130.cell? ⟨gb360, 0, none⟩ = some (.int .i64 0) := (blk_cell BK360.out 0).trans rfl; have hcz132_1 : w130.cell? ⟨gb360, 1, none⟩ = some (.string (⟨#[]⟩ : ByteArray)) := (blk_cell BK360.out 1).trans rfl; have hcz132_2 : w130.cell? ⟨gb360, 2, none⟩ = some (.string (⟨#[]⟩ : ByteArray)) := (blk_cell BK360.out 2).trans rfl; have hcz132_3 : w130.cell? ⟨gb360, 3, none⟩ = some (.string (⟨#[]⟩ : ByteArray)) := (blk_cell BK360.out 3).trans rfl; have hcz132_4 : w130.cell? ⟨gb360, 4, none⟩ = some (.string (⟨#[]⟩ : ByteArray)) := (blk_cell BK360.out 4).trans rfl; have hcz132_5 : w130.cell? ⟨gb360, 5, none⟩ = some (.int .i64 0) := (blk_cell BK360.out 5).trans rfl; have hcz132_6 : w130.cell? ⟨gb360, 6, none⟩ = some (.int .i64 0) := (blk_cell BK360.out 6).trans rfl; have hcz132_7 : w130.cell? ⟨gb360, 7, none⟩ = some (.int .i64 0) := (blk_cell BK360.out 7).trans rfl; have hfz132_0 := blk_frozen BK360.out 0; have hfz132_1 := blk_frozen BK360.out 1; have hfz132_2 := blk_frozen BK360.out 2; have hfz132_3 := blk_frozen BK360.out 3; have hfz132_4 := blk_frozen BK360.out 4; have hfz132_5 := blk_frozen BK360.out 5; have hfz132_6 := blk_frozen BK360.out 6; have hfz132_7 := blk_frozen BK360.out 7; have hcz133_0 : w130.cell? ⟨gb352, 0, none⟩ = some (.slice (some ad359) l0_0.length c0_0) := (blk_cell BK352.out 0).trans rfl; have hcz133_1 : w130.cell? ⟨gb352, 1, none⟩ = some (.slice A0_1 l0_1.length c0_1) := (blk_cell BK352.out 1).trans rfl; have hcz133_2 : w130.cell? ⟨gb352, 2, none⟩ = some (.slice A0_2 l0_2.length c0_2) := (blk_cell BK352.out 2).trans rfl; have hcz133_3 : w130.cell? ⟨gb352, 3, none⟩ = some (.int .i64 a0_3) := (blk_cell BK352.out 3).trans rfl; have hfz133_0 := blk_frozen BK352.out 0; have hfz133_1 := blk_frozen BK352.out 1; have hfz133_2 := blk_frozen BK352.out 2; have hfz133_3 := blk_frozen BK352.out 3))
                                      go_ret
                                      exact ⟨by first | rfl | (simp [errW_none, errW_some] <;> rfl) | (simp only [← hji27]; first | rfl | (simp [errW_none, errW_some] <;> rfl)) | (simp [*, errW_none, errW_some] <;> rfl), by repeat (first | (with_reducible first | exact HB.out | apply below_alloc | apply pw_below_drewN | apply below_drew1 | refine below_set ?_ GE352.out | refine below_set ?_ GE360.out) | exact HB.out)⟩
                                    · rw [if_neg c128] at H
                                      have c128b0 : (((rd_T33 t355 (ji27)).f0) == (wrap64 ((l0_0.length : Int) - 1))) = false := beq_eq_false_iff_ne.mpr c128
                                      have c128b1 : (((rd_T33 t355 (ji27)).f0) != (wrap64 ((l0_0.length : Int) - 1))) = true := bne_iff_ne.mpr c128
                                      obtain rfl := Option.some.inj H
                                      have hcz134_0 : wc.cell? ⟨gb352, 0, none⟩ = some (.slice A0_0 l0_0.length c0_0) := (blk_cell BK352.out 0).trans rfl
                                      have hcz134_1 : wc.cell? ⟨gb352, 1, none⟩ = some (.slice A0_1 l0_1.length c0_1) := (blk_cell BK352.out 1).trans rfl
                                      have hcz134_2 : wc.cell? ⟨gb352, 2, none⟩ = some (.slice A0_2 l0_2.length c0_2) := (blk_cell BK352.out 2).trans rfl
                                      have hcz134_3 : wc.cell? ⟨gb352, 3, none⟩ = some (.int .i64 a0_3) := (blk_cell BK352.out 3).trans rfl
                                      have hfz134_0 := blk_frozen BK352.out 0
                                      have hfz134_1 := blk_frozen BK352.out 1
                                      have hfz134_2 := blk_frozen BK352.out 2
                                      have hfz134_3 := blk_frozen BK352.out 3
                                      have p359 : 0 ≤ (((rd_T33 t355 (ji27)).f0) : Int) := of_decide_eq_true (by first | (with_reducible assumption) | assumption)
                                      have q359 : ((rd_T33 t355 (ji27)).f0) < (l0_0.length : Int) := of_decide_eq_true (by first | (with_reducible assumption) | assumption)
                                      obtain ⟨ad359, e359, hx359_0, hx359_1, hx359_2, hx359_3, hx359_4, hx359_5, hx359_6, hx359_7⟩ := at_T38 HR0_0.out ((rd_T33 t355 (ji27)).f0) p359 q359
                                      cases e359
                                      replace hx359_0 := (HB.out.cell (World.block_lt_of_cell? w _ hx359_0)).trans hx359_0
                                      replace hx359_1 := (HB.out.cell (World.block_lt_of_cell? w _ hx359_1)).trans hx359_1
                                      replace hx359_2 := (HB.out.cell (World.block_lt_of_cell? w _ hx359_2)).trans hx359_2
                                      replace hx359_3 := (HB.out.cell (World.block_lt_of_cell? w _ hx359_3)).trans hx359_3
                                      replace hx359_4 := (HB.out.cell (World.block_lt_of_cell? w _ hx359_4)).trans hx359_4
                                      replace hx359_5 := (HB.out.cell (World.block_lt_of_cell? w _ hx359_5)).trans hx359_5
                                      replace hx359_6 := (HB.out.cell (World.block_lt_of_cell? w _ hx359_6)).trans hx359_6
                                      replace hx359_7 := (HB.out.cell (World.block_lt_of_cell? w _ hx359_7)).trans hx359_7
                                      replace p359 := eq_true p359
                                      replace q359 := eq_true q359
                                      go_wp2_with (first | ((with_reducible refine gate_dst (N := 6) rfl ?_); (try (refine gate_guard (by rfl) ?_; dsimp only)); refine box_event ?hg (N := 6) ?hd (cs := #[.int .i64 0, .string (⟨#[]⟩ : ByteArray), .string (⟨#[]⟩ : ByteArray), .string (⟨#[]⟩ : ByteArray), .string (⟨#[]⟩ : ByteArray), .int .i64 0, .int .i64 0, .int .i64 0]) (t := 38) ?hr ?_; (case hd => rfl); (case hg => rfl); (case hr => first | (go_simp; done) | (go_simp; rfl)); intro gb360 hg w135 hbox hb; have n0_ := Aside0.mk (blk_below (g := gb352) (o := .cells #[.slice (some ad359) l0_0.length c0_0, .slice A0_1 l0_1.length c0_1, .slice A0_2 l0_2.length c0_2, .int .i64 a0_3] 26 (0, 0)) (by (with_reducible repeat (first | refine blk_drewN ?_ _ | refine blk_drew ?_ | refine blk_alloc ?_ _)); exact BK352.out) hb); have n1_ := Aside0.mk (Kd.C_below (by repeat (first | (with_reducible exact HR358_1.out) | (with_reducible refine Kd.C_alloc ?_ _) | (with_reducible refine Kd.C_drewN ?_ _) | (with_reducible refine Kd.C_drew ?_) | exact HR358_1.out)) hb); have n2_ := Aside0.mk (below_step (by repeat (first | (with_reducible first | exact HB.out | apply below_alloc | apply pw_below_drewN | apply below_drew1 | refine below_set ?_ GE352.out) | exact HB.out)) hb); have n3_ := Aside0.mk (hbox); have n4_ := Aside0.mk ((by rw [hg]; exact (below_size (by repeat (first | (with_reducible first | exact HB.out | apply below_alloc | apply pw_below_drewN | apply below_drew1 | refine below_set ?_ GE352.out) | exact HB.out))) : w.heap.size ≤ gb360)); have n5_ := Aside0.mk ((by rw [hg]; exact (below_size (by repeat (first | (with_reducible first | exact HB.out | apply below_alloc | apply pw_below_drewN | apply below_drew1 | refine below_set ?_ GE352.out) | exact HB.out))) : w.heap.size ≤ gb360)); have n6_ := Aside0.mk ((by rw [hg]; exact Nat.ne_of_lt (blk_lt (g := gb352) (o := .cells #[.slice (some ad359) l0_0.length c0_0, .slice A0_1 l0_1.length c0_1, .slice A0_2 l0_2.length c0_2, .int .i64 a0_3] 26 (0, 0)) (by (with_reducible repeat (first | refine blk_drewN ?_ _ | refine blk_drew ?_ | refine blk_alloc ?_ _)); exact BK352.out)) : gb352 ≠ gb360)); have n7_ := Aside0.mk ((by rw [hg]; exact Nat.ne_of_gt (blk_lt (g := gb352) (o := .cells #[.slice (some ad359) l0_0.length c0_0, .slice A0_1 l0_1.length c0_1, .slice A0_2 l0_2.length c0_2, .int .i64 a0_3] 26 (0, 0)) (by (with_reducible repeat (first | refine blk_drewN ?_ _ | refine blk_drew ?_ | refine blk_alloc ?_ _)); exact BK352.out)) : gb360 ≠ gb352)); clear BK352; clear HR358_1; clear HB; have BK352 := n0_; have HR358_1 := n1_; have HB := n2_; have BK360 := n3_; have GW360 := n4_; have GE360 := n5_; have NB352_360 := n6_; have NB360_352 := n7_; clear n0_ n1_ n2_ n3_ n4_ n5_ n6_ n7_; clear hb hbox hg; have hnb136 := NB360_352.out; have hnc136 := NB352_360.out; have hcz137_0 : w135.cell? ⟨gb360, 0, none⟩ = some (.int .i64 0) := (blk_cell BK360.out 0).trans rfl; have hcz137_1 : w135.cell? ⟨gb360, 1, none⟩ = some (.string (⟨#[]⟩ : ByteArray)) := (blk_cell BK360.out 1).trans rfl; have hcz137_2 : w135.cell? ⟨gb360, 2, none⟩ = some (.string (⟨#[]⟩ : ByteArray)) := (blk_cell BK360.out 2).trans rfl; have hcz137_3 : w135.cell? ⟨gb360, 3, none⟩ = some (.string (⟨#[]⟩ : ByteArray)) := (blk_cell BK360.out 3).trans rfl; have hcz137_4 : w135.cell? ⟨gb360, 4, none⟩ = some (.string (⟨#[]⟩ : ByteArray)) := (blk_cell BK360.out 4).trans rfl; have hcz137_5 : w135.cell? ⟨gb360, 5, none⟩ = some (.int .i64 0) := (blk_cell BK360.out 5).trans rfl; have hcz137_6 : w135.cell? ⟨gb360, 6, none⟩ = some (.int .i64 0) := (blk_cell BK360.out 6).trans rfl; have hcz137_7 : w135.cell? ⟨gb360, 7, none⟩ = some (.int .i64 0) := (blk_cell BK360.out 7).trans rfl; have hfz137_0 := blk_frozen BK360.out 0; have hfz137_1 := blk_frozen BK360.out 1; have hfz137_2 := blk_frozen BK360.out 2; have hfz137_3 := blk_frozen BK360.out 3; have hfz137_4 := blk_frozen BK360.out 4; have hfz137_5 := blk_frozen BK360.out 5; have hfz137_6 := blk_frozen BK360.out 6; have hfz137_7 := blk_frozen BK360.out 7; have hcz138_0 : w135.cell? ⟨gb352, 0, none⟩ = some (.slice (some ad359) l0_0.length c0_0) := (blk_cell BK352.out 0).trans rfl; have hcz138_1 : w135.cell? ⟨gb352, 1, none⟩ = some (.slice A0_1 l0_1.length c0_1) := (blk_cell BK352.out 1).trans rfl; have hcz138_2 : w135.cell? ⟨gb352, 2, none⟩ = some (.slice A0_2 l0_2.length c0_2) := (blk_cell BK352.out 2).trans rfl; have hcz138_3 : w135.cell? ⟨gb352, 3, none⟩ = some (.int .i64 a0_3) := (blk_cell BK352.out 3).trans rfl; have hfz138_0 := blk_frozen BK352.out 0; have hfz138_1 := blk_frozen BK352.out 1; have hfz138_2 := blk_frozen BK352.out 2; have hfz138_3 := blk_frozen BK352.out 3))
                                      go_ret
                                      exact ⟨by first | rfl | (simp [errW_none, errW_some] <;> rfl) | (simp only [← hji27]; first | rfl | (simp [errW_none, errW_some] <;> rfl)) | (simp [*, errW_none, errW_some] <;> rfl), by repeat (first | (with_reducible first | exact HB.out | apply below_alloc | apply pw_below_drewN | apply below_drew1 | refine below_set ?_ GE352.out | refine below_set ?_ GE360.out) | exact HB.out)⟩
                                  · replace c127 := Bool.eq_false_iff.mpr c127
                                    subst c127
                                    have H1 : (some false) = some r := by rw [if_neg (show ¬ (false = true) by decide)] at H; exact H
                                    clear H
                                    have H := H1
                                    clear H1
                                    obtain rfl := Option.some.inj H
                                    have hcz139_0 : wc.cell? ⟨gb352, 0, none⟩ = some (.slice A0_0 l0_0.length c0_0) := (blk_cell BK352.out 0).trans rfl
                                    have hcz139_1 : wc.cell? ⟨gb352, 1, none⟩ = some (.slice A0_1 l0_1.length c0_1) := (blk_cell BK352.out 1).trans rfl
                                    have hcz139_2 : wc.cell? ⟨gb352, 2, none⟩ = some (.slice A0_2 l0_2.length c0_2) := (blk_cell BK352.out 2).trans rfl
                                    have hcz139_3 : wc.cell? ⟨gb352, 3, none⟩ = some (.int .i64 a0_3) := (blk_cell BK352.out 3).trans rfl
                                    have hfz139_0 := blk_frozen BK352.out 0
                                    have hfz139_1 := blk_frozen BK352.out 1
                                    have hfz139_2 := blk_frozen BK352.out 2
                                    have hfz139_3 := blk_frozen BK352.out 3
                                    have p359 : 0 ≤ (((rd_T33 t355 (ji27)).f0) : Int) := of_decide_eq_true (by first | (with_reducible assumption) | assumption)
                                    have q359 : ((rd_T33 t355 (ji27)).f0) < (l0_0.length : Int) := of_decide_eq_true (by first | (with_reducible assumption) | assumption)
                                    obtain ⟨ad359, e359, hx359_0, hx359_1, hx359_2, hx359_3, hx359_4, hx359_5, hx359_6, hx359_7⟩ := at_T38 HR0_0.out ((rd_T33 t355 (ji27)).f0) p359 q359
                                    cases e359
                                    replace hx359_0 := (HB.out.cell (World.block_lt_of_cell? w _ hx359_0)).trans hx359_0
                                    replace hx359_1 := (HB.out.cell (World.block_lt_of_cell? w _ hx359_1)).trans hx359_1
                                    replace hx359_2 := (HB.out.cell (World.block_lt_of_cell? w _ hx359_2)).trans hx359_2
                                    replace hx359_3 := (HB.out.cell (World.block_lt_of_cell? w _ hx359_3)).trans hx359_3
                                    replace hx359_4 := (HB.out.cell (World.block_lt_of_cell? w _ hx359_4)).trans hx359_4
                                    replace hx359_5 := (HB.out.cell (World.block_lt_of_cell? w _ hx359_5)).trans hx359_5
                                    replace hx359_6 := (HB.out.cell (World.block_lt_of_cell? w _ hx359_6)).trans hx359_6
                                    replace hx359_7 := (HB.out.cell (World.block_lt_of_cell? w _ hx359_7)).trans hx359_7
                                    replace p359 := eq_true p359
                                    replace q359 := eq_true q359
                                    go_wp2_with (first | ((with_reducible refine gate_dst (N := 6) rfl ?_); (try (refine gate_guard (by rfl) ?_; dsimp only)); refine box_event ?hg (N := 6) ?hd (cs := #[.int .i64 0, .string (⟨#[]⟩ : ByteArray), .string (⟨#[]⟩ : ByteArray), .string (⟨#[]⟩ : ByteArray), .string (⟨#[]⟩ : ByteArray), .int .i64 0, .int .i64 0, .int .i64 0]) (t := 38) ?hr ?_; (case hd => rfl); (case hg => rfl); (case hr => first | (go_simp; done) | (go_simp; rfl)); intro gb360 hg w140 hbox hb; have n0_ := Aside0.mk (blk_below (g := gb352) (o := .cells #[.slice (some ad359) l0_0.length c0_0, .slice A0_1 l0_1.length c0_1, .slice A0_2 l0_2.length c0_2, .int .i64 a0_3] 26 (0, 0)) (by (with_reducible repeat (first | refine blk_drewN ?_ _ | refine blk_drew ?_ | refine blk_alloc ?_ _)); exact BK352.out) hb); have n1_ := Aside0.mk (Kd.C_below (by repeat (first | (with_reducible exact HR358_1.out) | (with_reducible refine Kd.C_alloc ?_ _) | (with_reducible refine Kd.C_drewN ?_ _) | (with_reducible refine Kd.C_drew ?_) | exact HR358_1.out)) hb); have n2_ := Aside0.mk (below_step (by repeat (first | (with_reducible first | exact HB.out | apply below_alloc | apply pw_below_drewN | apply below_drew1 | refine below_set ?_ GE352.out) | exact HB.out)) hb); have n3_ := Aside0.mk (hbox); have n4_ := Aside0.mk ((by rw [hg]; exact (below_size (by repeat (first | (with_reducible first | exact HB.out | apply below_alloc | apply pw_below_drewN | apply below_drew1 | refine below_set ?_ GE352.out) | exact HB.out))) : w.heap.size ≤ gb360)); have n5_ := Aside0.mk ((by rw [hg]; exact (below_size (by repeat (first | (with_reducible first | exact HB.out | apply below_alloc | apply pw_below_drewN | apply below_drew1 | refine below_set ?_ GE352.out) | exact HB.out))) : w.heap.size ≤ gb360)); have n6_ := Aside0.mk ((by rw [hg]; exact Nat.ne_of_lt (blk_lt (g := gb352) (o := .cells #[.slice (some ad359) l0_0.length c0_0, .slice A0_1 l0_1.length c0_1, .slice A0_2 l0_2.length c0_2, .int .i64 a0_3] 26 (0, 0)) (by (with_reducible repeat (first | refine blk_drewN ?_ _ | refine blk_drew ?_ | refine blk_alloc ?_ _)); exact BK352.out)) : gb352 ≠ gb360)); have n7_ := Aside0.mk ((by rw [hg]; exact Nat.ne_of_gt (blk_lt (g := gb352) (o := .cells #[.slice (some ad359) l0_0.length c0_0, .slice A0_1 l0_1.length c0_1, .slice A0_2 l0_2.length c0_2, .int .i64 a0_3] 26 (0, 0)) (by (with_reducible repeat (first | refine blk_drewN ?_ _ | refine blk_drew ?_ | refine blk_alloc ?_ _)); exact BK352.out)) : gb360 ≠ gb352)); clear BK352; clear HR358_1; clear HB; have BK352 := n0_; have HR358_1 := n1_; have HB := n2_; have BK360 := n3_; have GW360 := n4_; have GE360 := n5_; have NB352_360 := n6_; have NB360_352 := n7_; clear n0_ n1_ n2_ n3_ n4_ n5_ n6_ n7_; clear hb hbox hg; have hnb141 := NB360_352.out; have hnc141 := NB352_360.out; have hcz142_0 : w140.cell? ⟨gb360, 0, none⟩ = some (.int .i64 0) := (blk_cell BK360.out 0).trans rfl; have hcz142_1 : w140.cell? ⟨gb360, 1, none⟩ = some (.string (⟨#[]⟩ : ByteArray)) := (blk_cell BK360.out 1).trans rfl; have hcz142_2 : w140.cell? ⟨gb360, 2, none⟩ = some (.string (⟨#[]⟩ : ByteArray)) := (blk_cell BK360.out 2).trans rfl; have hcz142_3 : w140.cell? ⟨gb360, 3, none⟩ = some (.string (⟨#[]⟩ : ByteArray)) := (blk_cell BK360.out 3).trans rfl; have hcz142_4 : w140.cell? ⟨gb360, 4, none⟩ = some (.string (⟨#[]⟩ : ByteArray)) := (blk_cell BK360.out 4).trans rfl; have hcz142_5 : w140.cell? ⟨gb360, 5, none⟩ = some (.int .i64 0) := (blk_cell BK360.out 5).trans rfl; have hcz142_6 : w140.cell? ⟨gb360, 6, none⟩ = some (.int .i64 0) := (blk_cell BK360.out 6).trans rfl; have hcz142_7 : w140.cell? ⟨gb360, 7, none⟩ = some (.int .i64 0) := (blk_cell BK360.out 7).trans rfl; have hfz142_0 := blk_frozen BK360.out 0; have hfz142_1 := blk_frozen BK360.out 1; have hfz142_2 := blk_frozen BK360.out 2; have hfz142_3 := blk_frozen BK360.out 3; have hfz142_4 := blk_frozen BK360.out 4; have hfz142_5 := blk_frozen BK360.out 5; have hfz142_6 := blk_frozen BK360.out 6; have hfz142_7 := blk_frozen BK360.out 7; have hcz143_0 : w140.cell? ⟨gb352, 0, none⟩ = some (.slice (some ad359) l0_0.length c0_0) := (blk_cell BK352.out 0).trans rfl; have hcz143_1 : w140.cell? ⟨gb352, 1, none⟩ = some (.slice A0_1 l0_1.length c0_1) := (blk_cell BK352.out 1).trans rfl; have hcz143_2 : w140.cell? ⟨gb352, 2, none⟩ = some (.slice A0_2 l0_2.length c0_2) := (blk_cell BK352.out 2).trans rfl; have hcz143_3 : w140.cell? ⟨gb352, 3, none⟩ = some (.int .i64 a0_3) := (blk_cell BK352.out 3).trans rfl; have hfz143_0 := blk_frozen BK352.out 0; have hfz143_1 := blk_frozen BK352.out 1; have hfz143_2 := blk_frozen BK352.out 2; have hfz143_3 := blk_frozen BK352.out 3))
                                    go_ret
                                    exact ⟨by first | rfl | (simp [errW_none, errW_some] <;> rfl) | (simp only [← hji27]; first | rfl | (simp [errW_none, errW_some] <;> rfl)) | (simp [*, errW_none, errW_some] <;> rfl), by repeat (first | (with_reducible first | exact HB.out | apply below_alloc | apply pw_below_drewN | apply below_drew1 | refine below_set ?_ GE352.out | refine below_set ?_ GE360.out) | exact HB.out)⟩
                            · rw [if_neg c36] at H
                              exact absurd H (by simp)
                          · rw [if_neg c35] at H
                            exact absurd H (by simp)
                  · rw [if_neg c29] at H
                    exact absurd H (by simp)
                · rw [if_neg c28] at H
                  exact absurd H (by simp)
  · replace c4 := Bool.eq_false_iff.mpr c4
    subst c4
    have H1 : (some t353) = some r := by rw [if_neg (show ¬ (false = true) by decide)] at H; exact H
    clear H
    have H := H1
    clear H1
    obtain rfl := Option.some.inj H
    go_enter Try.func4, Try.ntmps4
    go_wp2_with (first | ((with_reducible refine gate_dst (N := 1) rfl ?_); (try (refine gate_guard (by rfl) ?_; dsimp only)); refine box_event ?hg (N := 1) ?hd (cs := #[.slice A0_0 l0_0.length c0_0, .slice A0_1 l0_1.length c0_1, .slice A0_2 l0_2.length c0_2, .int .i64 a0_3]) (t := 26) ?hr ?_; (case hd => rfl); (case hg => rfl); (case hr => first | (go_simp; done) | (go_simp; rfl)); intro gb352 hg w144 hbox hb; have n0_ := Aside0.mk (below_step (by repeat (first | (with_reducible first | exact HB.out | apply below_alloc | apply pw_below_drewN | apply below_drew1) | exact HB.out)) hb); have n1_ := Aside0.mk (hbox); have n2_ := Aside0.mk ((by rw [hg]; exact (below_size (by repeat (first | (with_reducible first | exact HB.out | apply below_alloc | apply pw_below_drewN | apply below_drew1) | exact HB.out))) : w.heap.size ≤ gb352)); have n3_ := Aside0.mk ((by rw [hg]; exact (below_size (by repeat (first | (with_reducible first | exact HB.out | apply below_alloc | apply pw_below_drewN | apply below_drew1) | exact HB.out))) : w.heap.size ≤ gb352)); clear HB; have HB := n0_; have BK352 := n1_; have GW352 := n2_; have GE352 := n3_; clear n0_ n1_ n2_ n3_; clear hb hbox hg) | ((with_reducible refine gate_callee (f := 15) rfl ?_); refine goesL_ (some 8) rfl rfl Try.func15 (by kernel_rfl) rfl #[] rfl (by (try simp only [List.map_toArray, List.map_cons, List.map_nil]); first | done | rfl | (simp only [List.length_drop, List.length_take]; rfl)) ?_; (with_reducible refine (lambrequinlaw22_shown.calls  t353 _ A2.out).mono ?_); rintro e w145 ⟨rfl, hb⟩; refine ⟨_, rfl, ?_⟩; have n0_ := Aside0.mk (blk_below (g := gb352) (o := .cells #[.slice A0_0 l0_0.length c0_0, .slice A0_1 l0_1.length c0_1, .slice A0_2 l0_2.length c0_2, .int .i64 a0_3] 26 (0, 0)) (by (with_reducible repeat (first | refine blk_drewN ?_ _ | refine blk_drew ?_ | refine blk_alloc ?_ _)); exact BK352.out) hb); have n1_ := Aside0.mk (below_step (by repeat (first | (with_reducible first | exact HB.out | apply below_alloc | apply pw_below_drewN | apply below_drew1 | refine below_set ?_ GE352.out) | exact HB.out)) hb); clear BK352; clear HB; have BK352 := n0_; have HB := n1_; clear n0_ n1_; (try clear hb); (try clear hb2); (try clear hk); (try clear hi); have hcz146_0 : w145.cell? ⟨gb352, 0, none⟩ = some (.slice A0_0 l0_0.length c0_0) := (blk_cell BK352.out 0).trans rfl; have hcz146_1 : w145.cell? ⟨gb352, 1, none⟩ = some (.slice A0_1 l0_1.length c0_1) := (blk_cell BK352.out 1).trans rfl; have hcz146_2 : w145.cell? ⟨gb352, 2, none⟩ = some (.slice A0_2 l0_2.length c0_2) := (blk_cell BK352.out 2).trans rfl; have hcz146_3 : w145.cell? ⟨gb352, 3, none⟩ = some (.int .i64 a0_3) := (blk_cell BK352.out 3).trans rfl; have hfz146_0 := blk_frozen BK352.out 0; have hfz146_1 := blk_frozen BK352.out 1; have hfz146_2 := blk_frozen BK352.out 2; have hfz146_3 := blk_frozen BK352.out 3) | ((with_reducible refine gate_callee (f := 16) rfl ?_); refine goesL_ (some 10) rfl rfl Try.func16 (by kernel_rfl) rfl #[.agg #[.slice A0_0 l0_0.length c0_0, .slice A0_1 l0_1.length c0_1, .slice A0_2 l0_2.length c0_2, .int .i64 a0_3]] rfl (by (try simp only [List.map_toArray, List.map_cons, List.map_nil]); first | done | rfl | (simp only [List.length_drop, List.length_take]; rfl)) ?_; (with_reducible refine (lambrequinlaw22_few.calls _ _ l0_0 _ _ l0_1 _ _ l0_2 a0_3 false _ ?side1 ?side2 ?side3 ?side4 ?side5 ?side6 A3.out).mono ?_); (case side1 => repeat (first | exact (Kd.C_below HR0_0.out HB.out) | (with_reducible refine Kd.C_alloc ?_ _) | (with_reducible refine Kd.C_drewN ?_ _) | (with_reducible refine Kd.C_drew ?_))); (case side2 => exact HC0_0.out); (case side3 => repeat (first | exact (Kd.C_below HR0_1.out HB.out) | (with_reducible refine Kd.C_alloc ?_ _) | (with_reducible refine Kd.C_drewN ?_ _) | (with_reducible refine Kd.C_drew ?_))); (case side4 => exact HC0_1.out); (case side5 => repeat (first | exact (Kd.C_below HR0_2.out HB.out) | (with_reducible refine Kd.C_alloc ?_ _) | (with_reducible refine Kd.C_drewN ?_ _) | (with_reducible refine Kd.C_drew ?_))); (case side6 => exact HC0_2.out); rintro e w147 ⟨rfl, hb⟩; refine ⟨_, rfl, ?_⟩; have n0_ := Aside0.mk (blk_below (g := gb352) (o := .cells #[.slice A0_0 l0_0.length c0_0, .slice A0_1 l0_1.length c0_1, .slice A0_2 l0_2.length c0_2, .int .i64 a0_3] 26 (0, 0)) (by (with_reducible repeat (first | refine blk_drewN ?_ _ | refine blk_drew ?_ | refine blk_alloc ?_ _)); exact BK352.out) hb); have n1_ := Aside0.mk (below_step (by repeat (first | (with_reducible first | exact HB.out | apply below_alloc | apply pw_below_drewN | apply below_drew1 | refine below_set ?_ GE352.out) | exact HB.out)) hb); clear BK352; clear HB; have BK352 := n0_; have HB := n1_; clear n0_ n1_; (try clear hb); (try clear hb2); (try clear hk); (try clear hi)))
    go_ret
    exact ⟨by first | rfl | (simp [errW_none, errW_some] <;> rfl) | (simp [*, errW_none, errW_some] <;> rfl), by repeat (first | (with_reducible first | exact HB.out | apply below_alloc | apply pw_below_drewN | apply below_drew1 | refine below_set ?_ GE352.out) | exact HB.out)⟩

end Go.Proofs.Ytmacollhnnachaa.Pr
