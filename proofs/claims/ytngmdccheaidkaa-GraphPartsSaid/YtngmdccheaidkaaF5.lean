-- printed by this session's own turn of print (wip/tools/mkprint.py)
import Derived.Test.YtngmdccheaidkaaF
import Derived.Test.YtngmdccheaidkaaF14
import Derived.Test.YtngmdccheaidkaaF15
import Derived.Test.YtngmdccheaidkaaF22
import Derived.Test.YtngmdccheaidkaaGParts
namespace Go.Proofs.Ytngmdccheaidkaa.Pr
open Go.RowKit Go.Proofs.YtngmdccheaidkaaW.PrintWords Go.Proofs.YtngmdccheaidkaaW.PrintLast Go.Proofs.YtngmdccheaidkaaW.PrintMore
attribute [local go_sem] max2_int min2_int max_two min_two max_three min_three max_four min_four   -- for this text's walks alone
set_option linter.unusedVariables false
set_option linter.unusedSimpArgs false

/-! ### lambrequinlaw10_GraphParts: function 5 -/
mutual
def lambrequinlaw10_GraphParts.l0 : Nat → Bool → Int → List (S27) → List (List Int) → List Int → Int → Int → Option (Bool)
  | 0, _, _, _, _, _, _, _ => none
  | k + 1, x5, x6, x7, x8, x9, x10, x11 => if x11 < (x8.length : Int) then (lambrequinlaw10_GraphParts.l1 k x5 x6 x7 x8 x9 x10 x11 0) else (lambrequinlaw10_GraphParts.l2 k x5 x6 x7 x9 x10 0)
def lambrequinlaw10_GraphParts.l1 : Nat → Bool → Int → List (S27) → List (List Int) → List Int → Int → Int → Int → Option (Bool)
  | 0, _, _, _, _, _, _, _, _ => none
  | k + 1, x5, x6, x7, x8, x9, x10, x11, x12 => if 0 ≤ x11 then (if x11 < (x8.length : Int) then (if x12 < ((rd_L1 x8 x11).length : Int) then (if 0 ≤ x12 then (if (rd (rd_L1 x8 x11) x12) < 0 then (some false) else (if (rd (rd_L1 x8 x11) x12) ≥ x6 then (some false) else (if x12 > 0 then (if 0 ≤ (wrap64 (x12 - 1)) then (if (wrap64 (x12 - 1)) < ((rd_L1 x8 x11).length : Int) then (if (rd (rd_L1 x8 x11) x12) ≤ (rd (rd_L1 x8 x11) (wrap64 (x12 - 1))) then (some false) else (if 0 ≤ (rd (rd_L1 x8 x11) x12) then (if (rd (rd_L1 x8 x11) x12) < (x9.length : Int) then (lambrequinlaw10_GraphParts.l1 k x5 x6 x7 x8 (x9.set ((rd (rd_L1 x8 x11) x12) : Int).toNat x11) (wrap64 (x10 + 1)) x11 (wrap64 (x12 + 1))) else (none)) else (none))) else (none)) else (none)) else (if 0 ≤ (rd (rd_L1 x8 x11) x12) then (if (rd (rd_L1 x8 x11) x12) < (x9.length : Int) then (lambrequinlaw10_GraphParts.l1 k x5 x6 x7 x8 (x9.set ((rd (rd_L1 x8 x11) x12) : Int).toNat x11) (wrap64 (x10 + 1)) x11 (wrap64 (x12 + 1))) else (none)) else (none))))) else (none)) else (lambrequinlaw10_GraphParts.l0 k x5 x6 x7 x8 x9 x10 (wrap64 (x11 + 1)))) else (none)) else (none)
def lambrequinlaw10_GraphParts.l2 : Nat → Bool → Int → List (S27) → List Int → Int → Int → Option (Bool)
  | 0, _, _, _, _, _, _ => none
  | k + 1, x5, x6, x7, x9, x10, x14 => if x14 < x6 then ((graph_Reach.f k x6 x7 x14).bind fun t438 => (lambrequinlaw10_GraphParts.l3 k x5 x6 x7 x9 x10 x14 t438 0)) else (if x5 = true then (some (x10 == x6)) else (some false))
def lambrequinlaw10_GraphParts.l3 : Nat → Bool → Int → List (S27) → List Int → Int → Int → List Bool → Int → Option (Bool)
  | 0, _, _, _, _, _, _, _, _ => none
  | k + 1, x5, x6, x7, x9, x10, x14, x15, x16 => if x16 < x6 then ((graph_Reach.f k x6 x7 x16).bind fun t441 => (if (x15.length : Int) = x6 then (if (t441.length : Int) = x6 then (if 0 ≤ x14 then (if x14 < (x9.length : Int) then (if 0 ≤ x16 then (if x16 < (x9.length : Int) then (if x16 < (x15.length : Int) then (if rdOf false x15 x16 = true then (if x14 < (t441.length : Int) then (if (((rd x9 x14) == (rd x9 x16)) != (rdOf false t441 x14)) = true then (some false) else (if (rd x9 x16) > (rd x9 x14) then (some false) else (lambrequinlaw10_GraphParts.l3 k x5 x6 x7 x9 x10 x14 x15 (wrap64 (x16 + 1))))) else (none)) else (if (((rd x9 x14) == (rd x9 x16)) != false) = true then (some false) else (lambrequinlaw10_GraphParts.l3 k x5 x6 x7 x9 x10 x14 x15 (wrap64 (x16 + 1))))) else (none)) else (none)) else (none)) else (none)) else (none)) else (some false)) else (some false))) else (lambrequinlaw10_GraphParts.l2 k x5 x6 x7 x9 x10 (wrap64 (x14 + 1)))
end
def lambrequinlaw10_GraphParts.f (k : Nat) (a0 : Int) (l1 : List (S45)) : Option (Bool) := (lambrequinlaw10_shown.f k).bind fun t420 => ((lambrequinlaw10_ends.f k a0 l1).bind fun bt421 => ((graph_Parts.f bt421.1 bt421.2).bind fun t425 => (if 0 ≤ bt421.1 then (if (bt421.1 : Int).toNat ≤ 35184372088832 then (lambrequinlaw10_GraphParts.l0 k t420 bt421.1 bt421.2 t425 (List.replicate (bt421.1 : Int).toNat 0) 0 0) else (none)) else (none))))
theorem lambrequinlaw10_GraphParts.mono_l : ∀ k, (∀ y0 y1 y2 y3 y4 y5 y6, LeO (lambrequinlaw10_GraphParts.l0 k y0 y1 y2 y3 y4 y5 y6) (lambrequinlaw10_GraphParts.l0 (k + 1) y0 y1 y2 y3 y4 y5 y6)) ∧ (∀ y0 y1 y2 y3 y4 y5 y6 y7, LeO (lambrequinlaw10_GraphParts.l1 k y0 y1 y2 y3 y4 y5 y6 y7) (lambrequinlaw10_GraphParts.l1 (k + 1) y0 y1 y2 y3 y4 y5 y6 y7)) ∧ (∀ y0 y1 y2 y3 y4 y5, LeO (lambrequinlaw10_GraphParts.l2 k y0 y1 y2 y3 y4 y5) (lambrequinlaw10_GraphParts.l2 (k + 1) y0 y1 y2 y3 y4 y5)) ∧ (∀ y0 y1 y2 y3 y4 y5 y6 y7, LeO (lambrequinlaw10_GraphParts.l3 k y0 y1 y2 y3 y4 y5 y6 y7) (lambrequinlaw10_GraphParts.l3 (k + 1) y0 y1 y2 y3 y4 y5 y6 y7))
  | 0 => ⟨fun _ _ _ _ _ _ _ r h => by simp [lambrequinlaw10_GraphParts.l0] at h, fun _ _ _ _ _ _ _ _ r h => by simp [lambrequinlaw10_GraphParts.l1] at h, fun _ _ _ _ _ _ r h => by simp [lambrequinlaw10_GraphParts.l2] at h, fun _ _ _ _ _ _ _ _ r h => by simp [lambrequinlaw10_GraphParts.l3] at h⟩
  | k + 1 => by
    obtain ⟨ih0, ih1, ih2, ih3⟩ := lambrequinlaw10_GraphParts.mono_l k
    refine ⟨?_, ?_, ?_, ?_⟩
    · intro y0 y1 y2 y3 y4 y5 y6
      unfold lambrequinlaw10_GraphParts.l0
      repeat' first
      | (with_reducible exact ih0 _ _ _ _ _ _ _)
      | (with_reducible exact ih1 _ _ _ _ _ _ _ _)
      | (with_reducible exact ih2 _ _ _ _ _ _)
      | (with_reducible exact ih3 _ _ _ _ _ _ _ _)
      | (with_reducible exact graph_Reach.mono _ _ _ _)
      | (with_reducible exact lambrequinlaw10_ends.mono _ _ _)
      | (with_reducible exact lambrequinlaw10_shown.mono _)
      | (with_reducible exact LeO.refl _)
      | (with_reducible exact LeO.none _)
      | (with_reducible refine LeO.ite ?_ ?_)
      | (with_reducible refine LeO.bind ?_ (fun _ => ?_))
      | exact ih0 _ _ _ _ _ _ _
      | exact ih1 _ _ _ _ _ _ _ _
      | exact ih2 _ _ _ _ _ _
      | exact ih3 _ _ _ _ _ _ _ _
      | exact graph_Reach.mono _ _ _ _
      | exact lambrequinlaw10_ends.mono _ _ _
      | exact lambrequinlaw10_shown.mono _
      | exact LeO.none _
      | refine LeO.ite ?_ ?_
      | refine LeO.bind ?_ (fun _ => ?_)
    · intro y0 y1 y2 y3 y4 y5 y6 y7
      unfold lambrequinlaw10_GraphParts.l1
      repeat' first
      | (with_reducible exact ih0 _ _ _ _ _ _ _)
      | (with_reducible exact ih1 _ _ _ _ _ _ _ _)
      | (with_reducible exact ih2 _ _ _ _ _ _)
      | (with_reducible exact ih3 _ _ _ _ _ _ _ _)
      | (with_reducible exact graph_Reach.mono _ _ _ _)
      | (with_reducible exact lambrequinlaw10_ends.mono _ _ _)
      | (with_reducible exact lambrequinlaw10_shown.mono _)
      | (with_reducible exact LeO.refl _)
      | (with_reducible exact LeO.none _)
      | (with_reducible refine LeO.ite ?_ ?_)
      | (with_reducible refine LeO.bind ?_ (fun _ => ?_))
      | exact ih0 _ _ _ _ _ _ _
      | exact ih1 _ _ _ _ _ _ _ _
      | exact ih2 _ _ _ _ _ _
      | exact ih3 _ _ _ _ _ _ _ _
      | exact graph_Reach.mono _ _ _ _
      | exact lambrequinlaw10_ends.mono _ _ _
      | exact lambrequinlaw10_shown.mono _
      | exact LeO.none _
      | refine LeO.ite ?_ ?_
      | refine LeO.bind ?_ (fun _ => ?_)
    · intro y0 y1 y2 y3 y4 y5
      unfold lambrequinlaw10_GraphParts.l2
      repeat' first
      | (with_reducible exact ih0 _ _ _ _ _ _ _)
      | (with_reducible exact ih1 _ _ _ _ _ _ _ _)
      | (with_reducible exact ih2 _ _ _ _ _ _)
      | (with_reducible exact ih3 _ _ _ _ _ _ _ _)
      | (with_reducible exact graph_Reach.mono _ _ _ _)
      | (with_reducible exact lambrequinlaw10_ends.mono _ _ _)
      | (with_reducible exact lambrequinlaw10_shown.mono _)
      | (with_reducible exact LeO.refl _)
      | (with_reducible exact LeO.none _)
      | (with_reducible refine LeO.ite ?_ ?_)
      | (with_reducible refine LeO.bind ?_ (fun _ => ?_))
      | exact ih0 _ _ _ _ _ _ _
      | exact ih1 _ _ _ _ _ _ _ _
      | exact ih2 _ _ _ _ _ _
      | exact ih3 _ _ _ _ _ _ _ _
      | exact graph_Reach.mono _ _ _ _
      | exact lambrequinlaw10_ends.mono _ _ _
      | exact lambrequinlaw10_shown.mono _
      | exact LeO.none _
      | refine LeO.ite ?_ ?_
      | refine LeO.bind ?_ (fun _ => ?_)
    · intro y0 y1 y2 y3 y4 y5 y6 y7
      unfold lambrequinlaw10_GraphParts.l3
      repeat' first
      | (with_reducible exact ih0 _ _ _ _ _ _ _)
      | (with_reducible exact ih1 _ _ _ _ _ _ _ _)
      | (with_reducible exact ih2 _ _ _ _ _ _)
      | (with_reducible exact ih3 _ _ _ _ _ _ _ _)
      | (with_reducible exact graph_Reach.mono _ _ _ _)
      | (with_reducible exact lambrequinlaw10_ends.mono _ _ _)
      | (with_reducible exact lambrequinlaw10_shown.mono _)
      | (with_reducible exact LeO.refl _)
      | (with_reducible exact LeO.none _)
      | (with_reducible refine LeO.ite ?_ ?_)
      | (with_reducible refine LeO.bind ?_ (fun _ => ?_))
      | exact ih0 _ _ _ _ _ _ _
      | exact ih1 _ _ _ _ _ _ _ _
      | exact ih2 _ _ _ _ _ _
      | exact ih3 _ _ _ _ _ _ _ _
      | exact graph_Reach.mono _ _ _ _
      | exact lambrequinlaw10_ends.mono _ _ _
      | exact lambrequinlaw10_shown.mono _
      | exact LeO.none _
      | refine LeO.ite ?_ ?_
      | refine LeO.bind ?_ (fun _ => ?_)
theorem lambrequinlaw10_GraphParts.mono : ∀ a0 a1 k, LeO (lambrequinlaw10_GraphParts.f k a0 a1) (lambrequinlaw10_GraphParts.f (k + 1) a0 a1) := by
  intro a0 a1 k
  obtain ⟨ih0, ih1, ih2, ih3⟩ := lambrequinlaw10_GraphParts.mono_l k
  unfold lambrequinlaw10_GraphParts.f
  repeat' first
      | (with_reducible exact ih0 _ _ _ _ _ _ _)
      | (with_reducible exact ih1 _ _ _ _ _ _ _ _)
      | (with_reducible exact ih2 _ _ _ _ _ _)
      | (with_reducible exact ih3 _ _ _ _ _ _ _ _)
      | (with_reducible exact graph_Reach.mono _ _ _ _)
      | (with_reducible exact lambrequinlaw10_ends.mono _ _ _)
      | (with_reducible exact lambrequinlaw10_shown.mono _)
      | (with_reducible exact LeO.refl _)
      | (with_reducible exact LeO.none _)
      | (with_reducible refine LeO.ite ?_ ?_)
      | (with_reducible refine LeO.bind ?_ (fun _ => ?_))
      | exact ih0 _ _ _ _ _ _ _
      | exact ih1 _ _ _ _ _ _ _ _
      | exact ih2 _ _ _ _ _ _
      | exact ih3 _ _ _ _ _ _ _ _
      | exact graph_Reach.mono _ _ _ _
      | exact lambrequinlaw10_ends.mono _ _ _
      | exact lambrequinlaw10_shown.mono _
      | exact LeO.none _
      | refine LeO.ite ?_ ?_
      | refine LeO.bind ?_ (fun _ => ?_)
set_option maxHeartbeats 8000000 in
set_option maxRecDepth 100000 in
theorem lambrequinlaw10_GraphParts.calls (k : Nat) (a0 : Int) (A1 : Option Addr) (c1 : Nat) (l1 : List (S45)) (r : Bool) (w : World) (hr1 : Kd.C k45 w A1 l1.length l1) (hc1 : l1.length ≤ c1) (h : lambrequinlaw10_GraphParts.f k a0 l1 = some r) :
    Calls Try.prog 5 #[.int .u8 a0, .slice A1 l1.length c1] w fun e w' => e = .returned (.bool r) ∧ Below w.heap.size w w' := by
  have HR1 := Aside0.mk hr1
  have HC1 := Aside0.mk hc1
  clear hr1 hc1
  have HB := Aside0.mk (Below.refl w.heap.size w)
  have H : ((lambrequinlaw10_shown.f k).bind fun t420 => ((lambrequinlaw10_ends.f k a0 l1).bind fun bt421 => ((graph_Parts.f bt421.1 bt421.2).bind fun t425 => (if 0 ≤ bt421.1 then (if (bt421.1 : Int).toNat ≤ 35184372088832 then (lambrequinlaw10_GraphParts.l0 k t420 bt421.1 bt421.2 t425 (List.replicate (bt421.1 : Int).toNat 0) 0 0) else (none)) else (none))))) = some r := h
  clear h
  replace H := Option.bind_eq_some_iff.mp H
  obtain ⟨t420, A30, H⟩ := H
  replace H : ((lambrequinlaw10_ends.f k a0 l1).bind fun bt421 => ((graph_Parts.f bt421.1 bt421.2).bind fun t425 => (if 0 ≤ bt421.1 then (if (bt421.1 : Int).toNat ≤ 35184372088832 then (lambrequinlaw10_GraphParts.l0 k t420 bt421.1 bt421.2 t425 (List.replicate (bt421.1 : Int).toNat 0) 0 0) else (none)) else (none)))) = some r := H
  have A3 := Aside0.mk A30
  clear A30
  replace H := Option.bind_eq_some_iff.mp H
  obtain ⟨⟨t421, t422⟩, A40, H⟩ := H
  replace H : ((graph_Parts.f t421 t422).bind fun t425 => (if 0 ≤ t421 then (if (t421 : Int).toNat ≤ 35184372088832 then (lambrequinlaw10_GraphParts.l0 k t420 t421 t422 t425 (List.replicate (t421 : Int).toNat 0) 0 0) else (none)) else (none))) = some r := H
  have A4 := Aside0.mk A40
  clear A40
  replace H := Option.bind_eq_some_iff.mp H
  obtain ⟨t425, A50, H⟩ := H
  replace H : (if 0 ≤ t421 then (if (t421 : Int).toNat ≤ 35184372088832 then (lambrequinlaw10_GraphParts.l0 k t420 t421 t422 t425 (List.replicate (t421 : Int).toNat 0) 0 0) else (none)) else (none)) = some r := H
  have A5 := Aside0.mk A50
  clear A50
  by_cases c6 : 0 ≤ t421
  · rw [if_pos c6] at H
    have c6b0 := eq_true c6
    have c6b1 : decide (0 ≤ t421) = true := decide_eq_true c6
    clear c6
    by_cases c7 : (t421 : Int).toNat ≤ 35184372088832
    · rw [if_pos c7] at H
      have c7b0 := eq_true c7
      have c7b1 : decide ((t421 : Int).toNat ≤ 35184372088832) = true := decide_eq_true c7
      clear c7
      obtain ⟨y428, hy428⟩ : ∃ y_ : List Int, y_ = (List.replicate (t421 : Int).toNat 0) := ⟨_, rfl⟩
      replace H : (lambrequinlaw10_GraphParts.l0 k t420 t421 t422 t425 y428 0 0) = some r := by first | (rw [hy428]; with_reducible exact H) | (have H2_ := (Option.bind_some _ _).symm.trans H; rw [hy428]; with_reducible exact H2_) | (have H2_ := (Option.bind_some _ _).symm.trans H; with_reducible exact H2_) | with_reducible exact H | (rw [hy428]; exact H) | exact H
      have Ny428 := Aside0.mk hy428
      clear hy428
      have H' := Aside0.mk H
      clear H
      go_enter Try.func5, Try.ntmps5
      go_wp2_with (first | (go_at_call 14; (with_reducible refine (lambrequinlaw10_shown.calls k  t420 _ A3.out).mono ?_); rintro e w8 ⟨rfl, hb⟩; have n0_ := Aside0.mk (below_step (by repeat (first | (with_reducible first | exact HB.out | apply below_alloc | apply pw_below_drewN | apply below_drew1) | exact HB.out)) hb); clear HB; have HB := n0_; clear n0_; (try clear hb); (try clear hb2); (try clear hk); (try clear hi)) | (go_at_call 15; (with_reducible refine (lambrequinlaw10_ends.calls k a0 _ _ l1 t421 t422 _ ?side1 ?side2 A4.out).mono ?_); (case side1 => repeat (first | exact (Kd.C_below HR1.out HB.out) | (with_reducible refine Kd.C_alloc ?_ _) | (with_reducible refine Kd.C_drewN ?_ _) | (with_reducible refine Kd.C_drew ?_))); (case side2 => exact HC1.out); rintro e w9 ⟨v423, rfl, ho0, hb⟩; have n0_ := Aside0.mk (Kd.R_lower ho0 (below_size (by repeat (first | (with_reducible first | exact HB.out | apply below_alloc | apply pw_below_drewN | apply below_drew1) | exact HB.out)))); have n1_ := Aside0.mk (below_step (by repeat (first | (with_reducible first | exact HB.out | apply below_alloc | apply pw_below_drewN | apply below_drew1) | exact HB.out)) hb); clear HB; have HO424 := n0_; have HB := n1_; clear n0_ n1_; (try clear hb); (try clear hb2); (try clear hk); (try clear hi); (try clear ho0); obtain ⟨Ao10, co10, eo10⟩ := Kd.R_slice HO424.out; subst eo10) | (go_at_call 18; (with_reducible refine (graph_Parts.calls t421 _ _ t422 t425 _ ?side1 ?side2 A5.out).mono ?_); (case side1 => repeat (first | exact (Kd.R_reads' HO424.out).2.2 | (with_reducible refine Kd.C_alloc ?_ _) | (with_reducible refine Kd.C_drewN ?_ _) | (with_reducible refine Kd.C_drew ?_))); (case side2 => exact (Kd.R_reads' HO424.out).2.1); rintro e w11 ⟨v426, rfl, ho0, hb⟩; have n0_ := Aside0.mk (Kd.R_below (by (with_reducible repeat (first | apply Kd.R_alloc | apply Kd.R_drewN | apply Kd.R_drew)); exact HO424.out) hb); have n1_ := Aside0.mk (Kd.S_lower ho0 (below_size (by repeat (first | (with_reducible first | exact HB.out | apply below_alloc | apply pw_below_drewN | apply below_drew1) | exact HB.out)))); have n2_ := Aside0.mk (below_step (by repeat (first | (with_reducible first | exact HB.out | apply below_alloc | apply pw_below_drewN | apply below_drew1) | exact HB.out)) hb); clear HO424; clear HB; have HO424 := n0_; have HO427 := n1_; have HB := n2_; clear n0_ n1_ n2_; (try clear hb); (try clear hb2); (try clear hk); (try clear hi); (try clear ho0)) | ((with_reducible refine gate_dst (N := 29) rfl ?_); (try (refine gate_guard (by rfl) ?_; dsimp only)); refine Kd.R_make (Kd.int .i64) _ 3 rfl (N := 29) rfl 35 _ _ rfl t421 rfl rfl Try.underlying35 (.int .i64 0) 8 info3 rfl (by decide) (by omega) 0 (ok := fun _ => True) (okp := fun _ => True) rfl (fun _ hk => hk) trivial (of_decide_eq_true (by first | (with_reducible assumption) | assumption)) (Nat.le_trans (Nat.mul_le_mul_right _ (of_decide_eq_true (by first | (with_reducible assumption) | assumption) : t421.toNat ≤ 35184372088832)) (by omega)) (Below.refl _ _) (Nat.le_refl _) ?_; intro v429 w12 ho13 hb hg_ hnew_; clear hg_ hnew_; (first | rw [← Ny428.out] at ho13 | (simp only [Int.reduceToNat] at ho13; rw [← Ny428.out] at ho13)); have n0_ := Aside0.mk (Kd.R_below (by (with_reducible repeat (first | apply Kd.R_alloc | apply Kd.R_drewN | apply Kd.R_drew)); exact HO424.out) hb); have n1_ := Aside0.mk (Kd.S_elder' (by (with_reducible repeat (first | apply Kd.S_alloc | apply Kd.S_drewN | apply Kd.S_drew)); exact HO427.out) (Kd.R_base ho13) hb); have n2_ := Aside0.mk (Kd.R_lower ho13 (below_size (by repeat (first | (with_reducible first | exact HB.out | apply below_alloc | apply pw_below_drewN | apply below_drew1) | exact HB.out)))); have n3_ := Aside0.mk (below_step (by repeat (first | (with_reducible first | exact HB.out | apply below_alloc | apply pw_below_drewN | apply below_drew1) | exact HB.out)) hb); clear HO424; clear HO427; clear HB; have HO424 := n0_; have HO427 := n1_; have HO430 := n2_; have HB := n3_; clear n0_ n1_ n2_ n3_; clear hb ho13))
      repeat (go_quiet (first | (go_at_call 14; (with_reducible refine (lambrequinlaw10_shown.calls k  t420 _ A3.out).mono ?_); rintro e w8 ⟨rfl, hb⟩; have n0_ := Aside0.mk (below_step (by repeat (first | (with_reducible first | exact HB.out | apply below_alloc | apply pw_below_drewN | apply below_drew1) | exact HB.out)) hb); clear HB; have HB := n0_; clear n0_; (try clear hb); (try clear hb2); (try clear hk); (try clear hi)) | (go_at_call 15; (with_reducible refine (lambrequinlaw10_ends.calls k a0 _ _ l1 t421 t422 _ ?side1 ?side2 A4.out).mono ?_); (case side1 => repeat (first | exact (Kd.C_below HR1.out HB.out) | (with_reducible refine Kd.C_alloc ?_ _) | (with_reducible refine Kd.C_drewN ?_ _) | (with_reducible refine Kd.C_drew ?_))); (case side2 => exact HC1.out); rintro e w9 ⟨v423, rfl, ho0, hb⟩; have n0_ := Aside0.mk (Kd.R_lower ho0 (below_size (by repeat (first | (with_reducible first | exact HB.out | apply below_alloc | apply pw_below_drewN | apply below_drew1) | exact HB.out)))); have n1_ := Aside0.mk (below_step (by repeat (first | (with_reducible first | exact HB.out | apply below_alloc | apply pw_below_drewN | apply below_drew1) | exact HB.out)) hb); clear HB; have HO424 := n0_; have HB := n1_; clear n0_ n1_; (try clear hb); (try clear hb2); (try clear hk); (try clear hi); (try clear ho0); obtain ⟨Ao10, co10, eo10⟩ := Kd.R_slice HO424.out; subst eo10) | (go_at_call 18; (with_reducible refine (graph_Parts.calls t421 _ _ t422 t425 _ ?side1 ?side2 A5.out).mono ?_); (case side1 => repeat (first | exact (Kd.R_reads' HO424.out).2.2 | (with_reducible refine Kd.C_alloc ?_ _) | (with_reducible refine Kd.C_drewN ?_ _) | (with_reducible refine Kd.C_drew ?_))); (case side2 => exact (Kd.R_reads' HO424.out).2.1); rintro e w11 ⟨v426, rfl, ho0, hb⟩; have n0_ := Aside0.mk (Kd.R_below (by (with_reducible repeat (first | apply Kd.R_alloc | apply Kd.R_drewN | apply Kd.R_drew)); exact HO424.out) hb); have n1_ := Aside0.mk (Kd.S_lower ho0 (below_size (by repeat (first | (with_reducible first | exact HB.out | apply below_alloc | apply pw_below_drewN | apply below_drew1) | exact HB.out)))); have n2_ := Aside0.mk (below_step (by repeat (first | (with_reducible first | exact HB.out | apply below_alloc | apply pw_below_drewN | apply below_drew1) | exact HB.out)) hb); clear HO424; clear HB; have HO424 := n0_; have HO427 := n1_; have HB := n2_; clear n0_ n1_ n2_; (try clear hb); (try clear hb2); (try clear hk); (try clear hi); (try clear ho0)) | ((with_reducible refine gate_dst (N := 29) rfl ?_); (try (refine gate_guard (by rfl) ?_; dsimp only)); refine Kd.R_make (Kd.int .i64) _ 3 rfl (N := 29) rfl 35 _ _ rfl t421 rfl rfl Try.underlying35 (.int .i64 0) 8 info3 rfl (by decide) (by omega) 0 (ok := fun _ => True) (okp := fun _ => True) rfl (fun _ hk => hk) trivial (of_decide_eq_true (by first | (with_reducible assumption) | assumption)) (Nat.le_trans (Nat.mul_le_mul_right _ (of_decide_eq_true (by first | (with_reducible assumption) | assumption) : t421.toNat ≤ 35184372088832)) (by omega)) (Below.refl _ _) (Nat.le_refl _) ?_; intro v429 w12 ho13 hb hg_ hnew_; clear hg_ hnew_; (first | rw [← Ny428.out] at ho13 | (simp only [Int.reduceToNat] at ho13; rw [← Ny428.out] at ho13)); have n0_ := Aside0.mk (Kd.R_below (by (with_reducible repeat (first | apply Kd.R_alloc | apply Kd.R_drewN | apply Kd.R_drew)); exact HO424.out) hb); have n1_ := Aside0.mk (Kd.S_elder' (by (with_reducible repeat (first | apply Kd.S_alloc | apply Kd.S_drewN | apply Kd.S_drew)); exact HO427.out) (Kd.R_base ho13) hb); have n2_ := Aside0.mk (Kd.R_lower ho13 (below_size (by repeat (first | (with_reducible first | exact HB.out | apply below_alloc | apply pw_below_drewN | apply below_drew1) | exact HB.out)))); have n3_ := Aside0.mk (below_step (by repeat (first | (with_reducible first | exact HB.out | apply below_alloc | apply pw_below_drewN | apply below_drew1) | exact HB.out)) hb); clear HO424; clear HO427; clear HB; have HO424 := n0_; have HO427 := n1_; have HO430 := n2_; have HB := n3_; clear n0_ n1_ n2_ n3_; clear hb ho13)); try go_wp2_with (first | (go_at_call 14; (with_reducible refine (lambrequinlaw10_shown.calls k  t420 _ A3.out).mono ?_); rintro e w8 ⟨rfl, hb⟩; have n0_ := Aside0.mk (below_step (by repeat (first | (with_reducible first | exact HB.out | apply below_alloc | apply pw_below_drewN | apply below_drew1) | exact HB.out)) hb); clear HB; have HB := n0_; clear n0_; (try clear hb); (try clear hb2); (try clear hk); (try clear hi)) | (go_at_call 15; (with_reducible refine (lambrequinlaw10_ends.calls k a0 _ _ l1 t421 t422 _ ?side1 ?side2 A4.out).mono ?_); (case side1 => repeat (first | exact (Kd.C_below HR1.out HB.out) | (with_reducible refine Kd.C_alloc ?_ _) | (with_reducible refine Kd.C_drewN ?_ _) | (with_reducible refine Kd.C_drew ?_))); (case side2 => exact HC1.out); rintro e w9 ⟨v423, rfl, ho0, hb⟩; have n0_ := Aside0.mk (Kd.R_lower ho0 (below_size (by repeat (first | (with_reducible first | exact HB.out | apply below_alloc | apply pw_below_drewN | apply below_drew1) | exact HB.out)))); have n1_ := Aside0.mk (below_step (by repeat (first | (with_reducible first | exact HB.out | apply below_alloc | apply pw_below_drewN | apply below_drew1) | exact HB.out)) hb); clear HB; have HO424 := n0_; have HB := n1_; clear n0_ n1_; (try clear hb); (try clear hb2); (try clear hk); (try clear hi); (try clear ho0); obtain ⟨Ao10, co10, eo10⟩ := Kd.R_slice HO424.out; subst eo10) | (go_at_call 18; (with_reducible refine (graph_Parts.calls t421 _ _ t422 t425 _ ?side1 ?side2 A5.out).mono ?_); (case side1 => repeat (first | exact (Kd.R_reads' HO424.out).2.2 | (with_reducible refine Kd.C_alloc ?_ _) | (with_reducible refine Kd.C_drewN ?_ _) | (with_reducible refine Kd.C_drew ?_))); (case side2 => exact (Kd.R_reads' HO424.out).2.1); rintro e w11 ⟨v426, rfl, ho0, hb⟩; have n0_ := Aside0.mk (Kd.R_below (by (with_reducible repeat (first | apply Kd.R_alloc | apply Kd.R_drewN | apply Kd.R_drew)); exact HO424.out) hb); have n1_ := Aside0.mk (Kd.S_lower ho0 (below_size (by repeat (first | (with_reducible first | exact HB.out | apply below_alloc | apply pw_below_drewN | apply below_drew1) | exact HB.out)))); have n2_ := Aside0.mk (below_step (by repeat (first | (with_reducible first | exact HB.out | apply below_alloc | apply pw_below_drewN | apply below_drew1) | exact HB.out)) hb); clear HO424; clear HB; have HO424 := n0_; have HO427 := n1_; have HB := n2_; clear n0_ n1_ n2_; (try clear hb); (try clear hb2); (try clear hk); (try clear hi); (try clear ho0)) | ((with_reducible refine gate_dst (N := 29) rfl ?_); (try (refine gate_guard (by rfl) ?_; dsimp only)); refine Kd.R_make (Kd.int .i64) _ 3 rfl (N := 29) rfl 35 _ _ rfl t421 rfl rfl Try.underlying35 (.int .i64 0) 8 info3 rfl (by decide) (by omega) 0 (ok := fun _ => True) (okp := fun _ => True) rfl (fun _ hk => hk) trivial (of_decide_eq_true (by first | (with_reducible assumption) | assumption)) (Nat.le_trans (Nat.mul_le_mul_right _ (of_decide_eq_true (by first | (with_reducible assumption) | assumption) : t421.toNat ≤ 35184372088832)) (by omega)) (Below.refl _ _) (Nat.le_refl _) ?_; intro v429 w12 ho13 hb hg_ hnew_; clear hg_ hnew_; (first | rw [← Ny428.out] at ho13 | (simp only [Int.reduceToNat] at ho13; rw [← Ny428.out] at ho13)); have n0_ := Aside0.mk (Kd.R_below (by (with_reducible repeat (first | apply Kd.R_alloc | apply Kd.R_drewN | apply Kd.R_drew)); exact HO424.out) hb); have n1_ := Aside0.mk (Kd.S_elder' (by (with_reducible repeat (first | apply Kd.S_alloc | apply Kd.S_drewN | apply Kd.S_drew)); exact HO427.out) (Kd.R_base ho13) hb); have n2_ := Aside0.mk (Kd.R_lower ho13 (below_size (by repeat (first | (with_reducible first | exact HB.out | apply below_alloc | apply pw_below_drewN | apply below_drew1) | exact HB.out)))); have n3_ := Aside0.mk (below_step (by repeat (first | (with_reducible first | exact HB.out | apply below_alloc | apply pw_below_drewN | apply below_drew1) | exact HB.out)) hb); clear HO424; clear HO427; clear HB; have HO424 := n0_; have HO427 := n1_; have HO430 := n2_; have HB := n3_; clear n0_ n1_ n2_ n3_; clear hb ho13)))
      go_loopg [10, 11] k (fun kq v10 v11 w' => ∃ (x9_1 : List Int) (x10_1 : Int) (x11_1 : Int), v10 = .int .i64 x10_1 ∧ v11 = .int .i64 x11_1 ∧ Aside0 (lambrequinlaw10_GraphParts.l0 kq t420 t421 t422 t425 x9_1 x10_1 x11_1 = some r) ∧ Aside0 (kq ≤ k) ∧ Aside0 (Kd.R k27 27 w' w.heap.size (fun _ => True) (.slice Ao10 t422.length co10) t422) ∧ Aside0 (Kd.S (Kd.slice 3 (Kd.int .i64)) 35 w' w.heap.size (fun k_ => some k_ ≠ (v429 : Value).ownBlock) v426 t425) ∧ Aside0 (Kd.R (Kd.int .i64) 3 w' w.heap.size (fun _ => True) v429 x9_1) ∧ Aside0 (Below w.heap.size w w'))
      case atStart => exact ⟨(y428), (0), (0), (by first | rfl | (simp; done) | (simp [*]; done)), (by first | rfl | (simp; done) | (simp [*]; done)), H', ⟨Nat.le_refl _⟩, ⟨by (with_reducible repeat (first | apply Kd.R_alloc | apply Kd.R_drewN | apply Kd.R_drew)); exact HO424.out⟩, ⟨by (with_reducible repeat (first | apply Kd.S_alloc | apply Kd.S_drewN | apply Kd.S_drew)); exact Kd.S_mono HO427.out (fun _ hk => hk.2)⟩, ⟨by (with_reducible repeat (first | apply Kd.R_alloc | apply Kd.R_drewN | apply Kd.R_drew)); exact HO430.out⟩, ⟨by repeat (first | (with_reducible first | exact HB.out | apply below_alloc | apply pw_below_drewN | apply below_drew1) | exact HB.out)⟩⟩
      case round =>
        clear H'
        try clear c1
        try clear p2
        try clear c5
        try clear c6
        try clear c6b0
        try clear c6b1
        try clear c7
        try clear c7b0
        try clear c7b1
        obtain ⟨x9_1, x10_1, x11_1, rfl, rfl, HA, HK1, HO_7, HO_8, HO_9, HB⟩ := hrel
        cases gk with
        | zero => exact absurd HA.out (by simp [lambrequinlaw10_GraphParts.l0])
        | succ k1 =>
          have H := HA.out
          clear HA
          simp only [lambrequinlaw10_GraphParts.l0] at H
          by_cases c14 : x11_1 < (t425.length : Int)
          · rw [if_pos c14] at H
            have c14b0 : decide (x11_1 < (t425.length : Int)) = true := decide_eq_true c14
            clear c14
            have H' := Aside0.mk H
            clear H
            obtain ⟨Ao15, co15, eo15⟩ := Kd.S_slice HO_8.out
            subst eo15
            go_wp2
            repeat (go_quiet (fail); try go_wp2)
            go_loopg [10, 12] k1 (fun kq v10 v12 w' => ∃ (x9_2 : List Int) (x10_2 : Int) (x12_2 : Int), v10 = .int .i64 x10_2 ∧ v12 = .int .i64 x12_2 ∧ Aside0 (lambrequinlaw10_GraphParts.l1 kq t420 t421 t422 t425 x9_2 x10_2 x11_1 x12_2 = some r) ∧ Aside0 (kq ≤ k1) ∧ Aside0 (Kd.R k27 27 w' w.heap.size (fun _ => True) (.slice Ao10 t422.length co10) t422) ∧ Aside0 (Kd.S (Kd.slice 3 (Kd.int .i64)) 35 w' w.heap.size (fun k_ => some k_ ≠ (v429 : Value).ownBlock) (.slice Ao15 t425.length co15) t425) ∧ Aside0 (Kd.R (Kd.int .i64) 3 w' w.heap.size (fun _ => True) v429 x9_2) ∧ Aside0 (Below w.heap.size w w'))
            case atStart => exact ⟨(x9_1), (x10_1), (0), (by first | rfl | (simp; done) | (simp [*]; done)), (by first | rfl | (simp; done) | (simp [*]; done)), H', ⟨Nat.le_refl _⟩, ⟨by (with_reducible repeat (first | apply Kd.R_alloc | apply Kd.R_drewN | apply Kd.R_drew)); exact HO_7.out⟩, ⟨by (with_reducible repeat (first | apply Kd.S_alloc | apply Kd.S_drewN | apply Kd.S_drew)); exact HO_8.out⟩, ⟨by (with_reducible repeat (first | apply Kd.R_alloc | apply Kd.R_drewN | apply Kd.R_drew)); exact HO_9.out⟩, ⟨by repeat (first | (with_reducible first | exact HB.out | apply below_alloc | apply pw_below_drewN | apply below_drew1) | exact HB.out)⟩⟩
            case round =>
              clear H'
              try clear c1
              try clear p2
              try clear c5
              try clear c6
              try clear c6b0
              try clear c6b1
              try clear c7
              try clear c7b0
              try clear c7b1
              try clear c14
              try clear c14b0
              try clear p2
              obtain ⟨x9_2, x10_2, x12_2, rfl, rfl, HA, HK2, HO_7, HO_8, HO_9, HB⟩ := hrel
              cases gk with
              | zero => exact absurd HA.out (by simp [lambrequinlaw10_GraphParts.l1])
              | succ k2 =>
                have H := HA.out
                clear HA
                simp only [lambrequinlaw10_GraphParts.l1] at H
                by_cases c16 : 0 ≤ x11_1
                · rw [if_pos c16] at H
                  have c16b0 : decide (0 ≤ x11_1) = true := decide_eq_true c16
                  clear c16
                  by_cases c17 : x11_1 < (t425.length : Int)
                  · rw [if_pos c17] at H
                    have c17b0 : decide (x11_1 < (t425.length : Int)) = true := decide_eq_true c17
                    clear c17
                    by_cases c18 : x12_2 < ((rd_L1 t425 x11_1).length : Int)
                    · rw [if_pos c18] at H
                      have c18b0 : decide (x12_2 < ((rd_L1 t425 x11_1).length : Int)) = true := decide_eq_true c18
                      clear c18
                      by_cases c19 : 0 ≤ x12_2
                      · rw [if_pos c19] at H
                        have c19b0 : decide (0 ≤ x12_2) = true := decide_eq_true c19
                        clear c19
                        by_cases c20 : (rd (rd_L1 t425 x11_1) x12_2) < 0
                        · rw [if_pos c20] at H
                          have c20b0 : decide ((rd (rd_L1 t425 x11_1) x12_2) < 0) = true := decide_eq_true c20
                          clear c20
                          obtain rfl := Option.some.inj H
                          have p431 : 0 ≤ (x11_1 : Int) := of_decide_eq_true (by first | (with_reducible assumption) | assumption)
                          have q431 : x11_1 < (t425.length : Int) := of_decide_eq_true (by first | (with_reducible assumption) | assumption)
                          obtain ⟨ad431, A431_0, c431_0, e431, hx431_0, hl431_0, hi431_0⟩ := at_L1 (Kd.S_reads' HO_8.out).2.2 x11_1 p431 q431
                          cases e431
                          obtain ⟨ce431, hce431, hMe431, hcc431⟩ := Kd.S_get HO_8.out [] x11_1 p431 (by first | exact q431 | exact of_decide_eq_true (by first | (with_reducible assumption) | assumption) | (have e_ := (Kd.S_reads' HO_8.out).1; omega))
                          obtain ⟨ve431_0, rfl, ge431_0⟩ := hMe431
                          have hv431_0 := hcc431 0 _ rfl
                          rw [Nat.add_zero, show ((Kd.slice 3 (Kd.int .i64))).sz = 1 from rfl, Nat.mul_one] at hv431_0
                          replace hv431_0 := Option.some.inj (hv431_0.symm.trans hx431_0)
                          rw [hv431_0] at ge431_0
                          have HL431_0 := Aside0.mk (show Kd.R (Kd.int .i64) 3 _ _ _ _ (rd_L1 t425 x11_1) from ge431_0)
                          clear hv431_0 ge431_0
                          clear hcc431 hce431
                          have HR431_0 := Aside0.mk hi431_0
                          have HC431_0 := Aside0.mk hl431_0
                          clear hi431_0 hl431_0
                          replace p431 := eq_true p431
                          replace q431 := eq_true q431
                          have p432 : 0 ≤ (x11_1 : Int) := of_decide_eq_true (by first | (with_reducible assumption) | assumption)
                          have q432 : x11_1 < (t425.length : Int) := of_decide_eq_true (by first | (with_reducible assumption) | assumption)
                          obtain ⟨ad432, A432_0, c432_0, e432, hx432_0, hl432_0, hi432_0⟩ := at_L1 (Kd.S_reads' HO_8.out).2.2 x11_1 p432 q432
                          obtain rfl : ad431 = ad432 := (by injection e432)
                          obtain ⟨ce432, hce432, hMe432, hcc432⟩ := Kd.S_get HO_8.out [] x11_1 p432 (by first | exact q432 | exact of_decide_eq_true (by first | (with_reducible assumption) | assumption) | (have e_ := (Kd.S_reads' HO_8.out).1; omega))
                          obtain ⟨ve432_0, rfl, ge432_0⟩ := hMe432
                          have hv432_0 := hcc432 0 _ rfl
                          rw [Nat.add_zero, show ((Kd.slice 3 (Kd.int .i64))).sz = 1 from rfl, Nat.mul_one] at hv432_0
                          replace hv432_0 := Option.some.inj (hv432_0.symm.trans hx432_0)
                          rw [hv432_0] at ge432_0
                          have HL432_0 := Aside0.mk (show Kd.R (Kd.int .i64) 3 _ _ _ _ (rd_L1 t425 x11_1) from ge432_0)
                          clear hv432_0 ge432_0
                          clear hcc432 hce432
                          have HR432_0 := Aside0.mk hi432_0
                          have HC432_0 := Aside0.mk hl432_0
                          clear hi432_0 hl432_0
                          replace p432 := eq_true p432
                          replace q432 := eq_true q432
                          have ea_ := Option.some.inj (hx431_0.symm.trans hx432_0)
                          injection ea_ with ea_ en_ ec_
                          subst ea_
                          subst ec_
                          clear en_
                          have p433 : 0 ≤ (x12_2 : Int) := of_decide_eq_true (by first | (with_reducible assumption) | assumption)
                          have q433 : x12_2 < ((rd_L1 t425 x11_1).length : Int) := of_decide_eq_true (by first | (with_reducible assumption) | assumption)
                          obtain ⟨ad433, e433, hx433_0⟩ := Kd.at_int (by repeat (first | (with_reducible exact HR432_0.out) | (with_reducible refine Kd.C_alloc ?_ _) | (with_reducible refine Kd.C_drewN ?_ _) | (with_reducible refine Kd.C_drew ?_) | exact HR432_0.out)) x12_2 p433 q433
                          cases e433
                          replace p433 := eq_true p433
                          replace q433 := eq_true q433
                          go_wp2
                          repeat (go_quiet (fail); try go_wp2)
                          go_ret
                          exact ⟨by first | rfl | (simp [errW_none, errW_some] <;> rfl) | (simp [*, errW_none, errW_some] <;> rfl), by repeat (first | (with_reducible first | exact HB.out | apply below_alloc | apply pw_below_drewN | apply below_drew1) | exact HB.out)⟩
                        · rw [if_neg c20] at H
                          have c20b0 : decide ((rd (rd_L1 t425 x11_1) x12_2) < 0) = false := decide_eq_false c20
                          clear c20
                          by_cases c21 : (rd (rd_L1 t425 x11_1) x12_2) ≥ t421
                          · rw [if_pos c21] at H
                            have c21b0 : decide (t421 ≤ (rd (rd_L1 t425 x11_1) x12_2)) = true := decide_eq_true c21
                            clear c21
                            obtain rfl := Option.some.inj H
                            have p431 : 0 ≤ (x11_1 : Int) := of_decide_eq_true (by first | (with_reducible assumption) | assumption)
                            have q431 : x11_1 < (t425.length : Int) := of_decide_eq_true (by first | (with_reducible assumption) | assumption)
                            obtain ⟨ad431, A431_0, c431_0, e431, hx431_0, hl431_0, hi431_0⟩ := at_L1 (Kd.S_reads' HO_8.out).2.2 x11_1 p431 q431
                            cases e431
                            obtain ⟨ce431, hce431, hMe431, hcc431⟩ := Kd.S_get HO_8.out [] x11_1 p431 (by first | exact q431 | exact of_decide_eq_true (by first | (with_reducible assumption) | assumption) | (have e_ := (Kd.S_reads' HO_8.out).1; omega))
                            obtain ⟨ve431_0, rfl, ge431_0⟩ := hMe431
                            have hv431_0 := hcc431 0 _ rfl
                            rw [Nat.add_zero, show ((Kd.slice 3 (Kd.int .i64))).sz = 1 from rfl, Nat.mul_one] at hv431_0
                            replace hv431_0 := Option.some.inj (hv431_0.symm.trans hx431_0)
                            rw [hv431_0] at ge431_0
                            have HL431_0 := Aside0.mk (show Kd.R (Kd.int .i64) 3 _ _ _ _ (rd_L1 t425 x11_1) from ge431_0)
                            clear hv431_0 ge431_0
                            clear hcc431 hce431
                            have HR431_0 := Aside0.mk hi431_0
                            have HC431_0 := Aside0.mk hl431_0
                            clear hi431_0 hl431_0
                            replace p431 := eq_true p431
                            replace q431 := eq_true q431
                            have p432 : 0 ≤ (x11_1 : Int) := of_decide_eq_true (by first | (with_reducible assumption) | assumption)
                            have q432 : x11_1 < (t425.length : Int) := of_decide_eq_true (by first | (with_reducible assumption) | assumption)
                            obtain ⟨ad432, A432_0, c432_0, e432, hx432_0, hl432_0, hi432_0⟩ := at_L1 (Kd.S_reads' HO_8.out).2.2 x11_1 p432 q432
                            obtain rfl : ad431 = ad432 := (by injection e432)
                            obtain ⟨ce432, hce432, hMe432, hcc432⟩ := Kd.S_get HO_8.out [] x11_1 p432 (by first | exact q432 | exact of_decide_eq_true (by first | (with_reducible assumption) | assumption) | (have e_ := (Kd.S_reads' HO_8.out).1; omega))
                            obtain ⟨ve432_0, rfl, ge432_0⟩ := hMe432
                            have hv432_0 := hcc432 0 _ rfl
                            rw [Nat.add_zero, show ((Kd.slice 3 (Kd.int .i64))).sz = 1 from rfl, Nat.mul_one] at hv432_0
                            replace hv432_0 := Option.some.inj (hv432_0.symm.trans hx432_0)
                            rw [hv432_0] at ge432_0
                            have HL432_0 := Aside0.mk (show Kd.R (Kd.int .i64) 3 _ _ _ _ (rd_L1 t425 x11_1) from ge432_0)
                            clear hv432_0 ge432_0
                            clear hcc432 hce432
                            have HR432_0 := Aside0.mk hi432_0
                            have HC432_0 := Aside0.mk hl432_0
                            clear hi432_0 hl432_0
                            replace p432 := eq_true p432
                            replace q432 := eq_true q432
                            have ea_ := Option.some.inj (hx431_0.symm.trans hx432_0)
                            injection ea_ with ea_ en_ ec_
                            subst ea_
                            subst ec_
                            clear en_
                            have p433 : 0 ≤ (x12_2 : Int) := of_decide_eq_true (by first | (with_reducible assumption) | assumption)
                            have q433 : x12_2 < ((rd_L1 t425 x11_1).length : Int) := of_decide_eq_true (by first | (with_reducible assumption) | assumption)
                            obtain ⟨ad433, e433, hx433_0⟩ := Kd.at_int (by repeat (first | (with_reducible exact HR432_0.out) | (with_reducible refine Kd.C_alloc ?_ _) | (with_reducible refine Kd.C_drewN ?_ _) | (with_reducible refine Kd.C_drew ?_) | exact HR432_0.out)) x12_2 p433 q433
                            cases e433
                            replace p433 := eq_true p433
                            replace q433 := eq_true q433
                            go_wp2
                            repeat (go_quiet (fail); try go_wp2)
                            go_ret
                            exact ⟨by first | rfl | (simp [errW_none, errW_some] <;> rfl) | (simp [*, errW_none, errW_some] <;> rfl), by repeat (first | (with_reducible first | exact HB.out | apply below_alloc | apply pw_below_drewN | apply below_drew1) | exact HB.out)⟩
                          · rw [if_neg c21] at H
                            have c21b0 : decide (t421 ≤ (rd (rd_L1 t425 x11_1) x12_2)) = false := decide_eq_false c21
                            clear c21
                            by_cases c22 : x12_2 > 0
                            · rw [if_pos c22] at H
                              have c22b0 : decide (0 < x12_2) = true := decide_eq_true c22
                              clear c22
                              obtain ⟨ji23, hji23⟩ : ∃ j_ : Int, (wrap64 (x12_2 - 1)) = j_ := ⟨_, rfl⟩
                              replace H : (if 0 ≤ (ji23) then (if (ji23) < ((rd_L1 t425 x11_1).length : Int) then (if (rd (rd_L1 t425 x11_1) x12_2) ≤ (rd (rd_L1 t425 x11_1) (ji23)) then (some false) else (if 0 ≤ (rd (rd_L1 t425 x11_1) x12_2) then (if (rd (rd_L1 t425 x11_1) x12_2) < (x9_2.length : Int) then (lambrequinlaw10_GraphParts.l1 k2 t420 t421 t422 t425 (x9_2.set ((rd (rd_L1 t425 x11_1) x12_2) : Int).toNat x11_1) (wrap64 (x10_2 + 1)) x11_1 (wrap64 (x12_2 + 1))) else (none)) else (none))) else (none)) else (none)) = some r := by first | (rw [hji23] at H; exact H) | (simp only [hji23] at H ⊢; exact H)
                              have hji23w : (IntKind.i64.wrap (x12_2 - 1)) = ji23 := (i64_w _).trans hji23
                              by_cases c24 : 0 ≤ (ji23)
                              · rw [if_pos c24] at H
                                have c24b0 : decide (0 ≤ (ji23)) = true := decide_eq_true c24
                                clear c24
                                by_cases c25 : (ji23) < ((rd_L1 t425 x11_1).length : Int)
                                · rw [if_pos c25] at H
                                  have c25b0 : decide ((ji23) < ((rd_L1 t425 x11_1).length : Int)) = true := decide_eq_true c25
                                  clear c25
                                  by_cases c26 : (rd (rd_L1 t425 x11_1) x12_2) ≤ (rd (rd_L1 t425 x11_1) (ji23))
                                  · rw [if_pos c26] at H
                                    have c26b0 : decide ((rd (rd_L1 t425 x11_1) x12_2) ≤ (rd (rd_L1 t425 x11_1) (ji23))) = true := decide_eq_true c26
                                    clear c26
                                    obtain rfl := Option.some.inj H
                                    have p431 : 0 ≤ (x11_1 : Int) := of_decide_eq_true (by first | (with_reducible assumption) | assumption)
                                    have q431 : x11_1 < (t425.length : Int) := of_decide_eq_true (by first | (with_reducible assumption) | assumption)
                                    obtain ⟨ad431, A431_0, c431_0, e431, hx431_0, hl431_0, hi431_0⟩ := at_L1 (Kd.S_reads' HO_8.out).2.2 x11_1 p431 q431
                                    cases e431
                                    obtain ⟨ce431, hce431, hMe431, hcc431⟩ := Kd.S_get HO_8.out [] x11_1 p431 (by first | exact q431 | exact of_decide_eq_true (by first | (with_reducible assumption) | assumption) | (have e_ := (Kd.S_reads' HO_8.out).1; omega))
                                    obtain ⟨ve431_0, rfl, ge431_0⟩ := hMe431
                                    have hv431_0 := hcc431 0 _ rfl
                                    rw [Nat.add_zero, show ((Kd.slice 3 (Kd.int .i64))).sz = 1 from rfl, Nat.mul_one] at hv431_0
                                    replace hv431_0 := Option.some.inj (hv431_0.symm.trans hx431_0)
                                    rw [hv431_0] at ge431_0
                                    have HL431_0 := Aside0.mk (show Kd.R (Kd.int .i64) 3 _ _ _ _ (rd_L1 t425 x11_1) from ge431_0)
                                    clear hv431_0 ge431_0
                                    clear hcc431 hce431
                                    have HR431_0 := Aside0.mk hi431_0
                                    have HC431_0 := Aside0.mk hl431_0
                                    clear hi431_0 hl431_0
                                    replace p431 := eq_true p431
                                    replace q431 := eq_true q431
                                    have p432 : 0 ≤ (x11_1 : Int) := of_decide_eq_true (by first | (with_reducible assumption) | assumption)
                                    have q432 : x11_1 < (t425.length : Int) := of_decide_eq_true (by first | (with_reducible assumption) | assumption)
                                    obtain ⟨ad432, A432_0, c432_0, e432, hx432_0, hl432_0, hi432_0⟩ := at_L1 (Kd.S_reads' HO_8.out).2.2 x11_1 p432 q432
                                    obtain rfl : ad431 = ad432 := (by injection e432)
                                    obtain ⟨ce432, hce432, hMe432, hcc432⟩ := Kd.S_get HO_8.out [] x11_1 p432 (by first | exact q432 | exact of_decide_eq_true (by first | (with_reducible assumption) | assumption) | (have e_ := (Kd.S_reads' HO_8.out).1; omega))
                                    obtain ⟨ve432_0, rfl, ge432_0⟩ := hMe432
                                    have hv432_0 := hcc432 0 _ rfl
                                    rw [Nat.add_zero, show ((Kd.slice 3 (Kd.int .i64))).sz = 1 from rfl, Nat.mul_one] at hv432_0
                                    replace hv432_0 := Option.some.inj (hv432_0.symm.trans hx432_0)
                                    rw [hv432_0] at ge432_0
                                    have HL432_0 := Aside0.mk (show Kd.R (Kd.int .i64) 3 _ _ _ _ (rd_L1 t425 x11_1) from ge432_0)
                                    clear hv432_0 ge432_0
                                    clear hcc432 hce432
                                    have HR432_0 := Aside0.mk hi432_0
                                    have HC432_0 := Aside0.mk hl432_0
                                    clear hi432_0 hl432_0
                                    replace p432 := eq_true p432
                                    replace q432 := eq_true q432
                                    have ea_ := Option.some.inj (hx431_0.symm.trans hx432_0)
                                    injection ea_ with ea_ en_ ec_
                                    subst ea_
                                    subst ec_
                                    clear en_
                                    have p433 : 0 ≤ (x12_2 : Int) := of_decide_eq_true (by first | (with_reducible assumption) | assumption)
                                    have q433 : x12_2 < ((rd_L1 t425 x11_1).length : Int) := of_decide_eq_true (by first | (with_reducible assumption) | assumption)
                                    obtain ⟨ad433, e433, hx433_0⟩ := Kd.at_int (by repeat (first | (with_reducible exact HR432_0.out) | (with_reducible refine Kd.C_alloc ?_ _) | (with_reducible refine Kd.C_drewN ?_ _) | (with_reducible refine Kd.C_drew ?_) | exact HR432_0.out)) x12_2 p433 q433
                                    cases e433
                                    replace p433 := eq_true p433
                                    replace q433 := eq_true q433
                                    have p434 : 0 ≤ (x11_1 : Int) := of_decide_eq_true (by first | (with_reducible assumption) | assumption)
                                    have q434 : x11_1 < (t425.length : Int) := of_decide_eq_true (by first | (with_reducible assumption) | assumption)
                                    obtain ⟨ad434, A434_0, c434_0, e434, hx434_0, hl434_0, hi434_0⟩ := at_L1 (Kd.S_reads' HO_8.out).2.2 x11_1 p434 q434
                                    obtain rfl : ad431 = ad434 := (by injection e434)
                                    obtain ⟨ce434, hce434, hMe434, hcc434⟩ := Kd.S_get HO_8.out [] x11_1 p434 (by first | exact q434 | exact of_decide_eq_true (by first | (with_reducible assumption) | assumption) | (have e_ := (Kd.S_reads' HO_8.out).1; omega))
                                    obtain ⟨ve434_0, rfl, ge434_0⟩ := hMe434
                                    have hv434_0 := hcc434 0 _ rfl
                                    rw [Nat.add_zero, show ((Kd.slice 3 (Kd.int .i64))).sz = 1 from rfl, Nat.mul_one] at hv434_0
                                    replace hv434_0 := Option.some.inj (hv434_0.symm.trans hx434_0)
                                    rw [hv434_0] at ge434_0
                                    have HL434_0 := Aside0.mk (show Kd.R (Kd.int .i64) 3 _ _ _ _ (rd_L1 t425 x11_1) from ge434_0)
                                    clear hv434_0 ge434_0
                                    clear hcc434 hce434
                                    have HR434_0 := Aside0.mk hi434_0
                                    have HC434_0 := Aside0.mk hl434_0
                                    clear hi434_0 hl434_0
                                    replace p434 := eq_true p434
                                    replace q434 := eq_true q434
                                    have ea_ := Option.some.inj (hx431_0.symm.trans hx434_0)
                                    injection ea_ with ea_ en_ ec_
                                    subst ea_
                                    subst ec_
                                    clear en_
                                    have p435 : 0 ≤ ((ji23) : Int) := of_decide_eq_true (by first | (with_reducible assumption) | assumption)
                                    have q435 : (ji23) < ((rd_L1 t425 x11_1).length : Int) := of_decide_eq_true (by first | (with_reducible assumption) | assumption)
                                    obtain ⟨ad435, e435, hx435_0⟩ := Kd.at_int (by repeat (first | (with_reducible exact HR434_0.out) | (with_reducible refine Kd.C_alloc ?_ _) | (with_reducible refine Kd.C_drewN ?_ _) | (with_reducible refine Kd.C_drew ?_) | exact HR434_0.out)) (ji23) p435 q435
                                    cases e435
                                    replace p435 := eq_true p435
                                    replace q435 := eq_true q435
                                    go_wp2
                                    repeat (go_quiet (fail); try go_wp2)
                                    go_ret
                                    exact ⟨by first | rfl | (simp [errW_none, errW_some] <;> rfl) | (simp only [← hji23]; first | rfl | (simp [errW_none, errW_some] <;> rfl)) | (simp [*, errW_none, errW_some] <;> rfl), by repeat (first | (with_reducible first | exact HB.out | apply below_alloc | apply pw_below_drewN | apply below_drew1) | exact HB.out)⟩
                                  · rw [if_neg c26] at H
                                    have c26b0 : decide ((rd (rd_L1 t425 x11_1) x12_2) ≤ (rd (rd_L1 t425 x11_1) (ji23))) = false := decide_eq_false c26
                                    clear c26
                                    by_cases c27 : 0 ≤ (rd (rd_L1 t425 x11_1) x12_2)
                                    · rw [if_pos c27] at H
                                      have c27b0 : decide (0 ≤ (rd (rd_L1 t425 x11_1) x12_2)) = true := decide_eq_true c27
                                      clear c27
                                      by_cases c28 : (rd (rd_L1 t425 x11_1) x12_2) < (x9_2.length : Int)
                                      · rw [if_pos c28] at H
                                        have c28b0 : decide ((rd (rd_L1 t425 x11_1) x12_2) < (x9_2.length : Int)) = true := decide_eq_true c28
                                        clear c28
                                        obtain ⟨y436, hy436⟩ : ∃ y_ : List Int, y_ = (x9_2.set ((rd (rd_L1 t425 x11_1) x12_2) : Int).toNat x11_1) := ⟨_, rfl⟩
                                        replace H : (lambrequinlaw10_GraphParts.l1 k2 t420 t421 t422 t425 y436 (wrap64 (x10_2 + 1)) x11_1 (wrap64 (x12_2 + 1))) = some r := by first | (rw [hy436]; with_reducible exact H) | (have H2_ := (Option.bind_some _ _).symm.trans H; rw [hy436]; with_reducible exact H2_) | (have H2_ := (Option.bind_some _ _).symm.trans H; with_reducible exact H2_) | with_reducible exact H | (rw [hy436]; exact H) | exact H
                                        have Ny436 := Aside0.mk hy436
                                        clear hy436
                                        have H' := Aside0.mk H
                                        clear H
                                        have p431 : 0 ≤ (x11_1 : Int) := of_decide_eq_true (by first | (with_reducible assumption) | assumption)
                                        have q431 : x11_1 < (t425.length : Int) := of_decide_eq_true (by first | (with_reducible assumption) | assumption)
                                        obtain ⟨ad431, A431_0, c431_0, e431, hx431_0, hl431_0, hi431_0⟩ := at_L1 (Kd.S_reads' HO_8.out).2.2 x11_1 p431 q431
                                        cases e431
                                        obtain ⟨ce431, hce431, hMe431, hcc431⟩ := Kd.S_get HO_8.out [] x11_1 p431 (by first | exact q431 | exact of_decide_eq_true (by first | (with_reducible assumption) | assumption) | (have e_ := (Kd.S_reads' HO_8.out).1; omega))
                                        obtain ⟨ve431_0, rfl, ge431_0⟩ := hMe431
                                        have hv431_0 := hcc431 0 _ rfl
                                        rw [Nat.add_zero, show ((Kd.slice 3 (Kd.int .i64))).sz = 1 from rfl, Nat.mul_one] at hv431_0
                                        replace hv431_0 := Option.some.inj (hv431_0.symm.trans hx431_0)
                                        rw [hv431_0] at ge431_0
                                        have HL431_0 := Aside0.mk (show Kd.R (Kd.int .i64) 3 _ _ _ _ (rd_L1 t425 x11_1) from ge431_0)
                                        clear hv431_0 ge431_0
                                        clear hcc431 hce431
                                        have HR431_0 := Aside0.mk hi431_0
                                        have HC431_0 := Aside0.mk hl431_0
                                        clear hi431_0 hl431_0
                                        replace p431 := eq_true p431
                                        replace q431 := eq_true q431
                                        have p432 : 0 ≤ (x11_1 : Int) := of_decide_eq_true (by first | (with_reducible assumption) | assumption)
                                        have q432 : x11_1 < (t425.length : Int) := of_decide_eq_true (by first | (with_reducible assumption) | assumption)
                                        obtain ⟨ad432, A432_0, c432_0, e432, hx432_0, hl432_0, hi432_0⟩ := at_L1 (Kd.S_reads' HO_8.out).2.2 x11_1 p432 q432
                                        obtain rfl : ad431 = ad432 := (by injection e432)
                                        obtain ⟨ce432, hce432, hMe432, hcc432⟩ := Kd.S_get HO_8.out [] x11_1 p432 (by first | exact q432 | exact of_decide_eq_true (by first | (with_reducible assumption) | assumption) | (have e_ := (Kd.S_reads' HO_8.out).1; omega))
                                        obtain ⟨ve432_0, rfl, ge432_0⟩ := hMe432
                                        have hv432_0 := hcc432 0 _ rfl
                                        rw [Nat.add_zero, show ((Kd.slice 3 (Kd.int .i64))).sz = 1 from rfl, Nat.mul_one] at hv432_0
                                        replace hv432_0 := Option.some.inj (hv432_0.symm.trans hx432_0)
                                        rw [hv432_0] at ge432_0
                                        have HL432_0 := Aside0.mk (show Kd.R (Kd.int .i64) 3 _ _ _ _ (rd_L1 t425 x11_1) from ge432_0)
                                        clear hv432_0 ge432_0
                                        clear hcc432 hce432
                                        have HR432_0 := Aside0.mk hi432_0
                                        have HC432_0 := Aside0.mk hl432_0
                                        clear hi432_0 hl432_0
                                        replace p432 := eq_true p432
                                        replace q432 := eq_true q432
                                        have ea_ := Option.some.inj (hx431_0.symm.trans hx432_0)
                                        injection ea_ with ea_ en_ ec_
                                        subst ea_
                                        subst ec_
                                        clear en_
                                        have p433 : 0 ≤ (x12_2 : Int) := of_decide_eq_true (by first | (with_reducible assumption) | assumption)
                                        have q433 : x12_2 < ((rd_L1 t425 x11_1).length : Int) := of_decide_eq_true (by first | (with_reducible assumption) | assumption)
                                        obtain ⟨ad433, e433, hx433_0⟩ := Kd.at_int (by repeat (first | (with_reducible exact HR432_0.out) | (with_reducible refine Kd.C_alloc ?_ _) | (with_reducible refine Kd.C_drewN ?_ _) | (with_reducible refine Kd.C_drew ?_) | exact HR432_0.out)) x12_2 p433 q433
                                        cases e433
                                        replace p433 := eq_true p433
                                        replace q433 := eq_true q433
                                        have p434 : 0 ≤ (x11_1 : Int) := of_decide_eq_true (by first | (with_reducible assumption) | assumption)
                                        have q434 : x11_1 < (t425.length : Int) := of_decide_eq_true (by first | (with_reducible assumption) | assumption)
                                        obtain ⟨ad434, A434_0, c434_0, e434, hx434_0, hl434_0, hi434_0⟩ := at_L1 (Kd.S_reads' HO_8.out).2.2 x11_1 p434 q434
                                        obtain rfl : ad431 = ad434 := (by injection e434)
                                        obtain ⟨ce434, hce434, hMe434, hcc434⟩ := Kd.S_get HO_8.out [] x11_1 p434 (by first | exact q434 | exact of_decide_eq_true (by first | (with_reducible assumption) | assumption) | (have e_ := (Kd.S_reads' HO_8.out).1; omega))
                                        obtain ⟨ve434_0, rfl, ge434_0⟩ := hMe434
                                        have hv434_0 := hcc434 0 _ rfl
                                        rw [Nat.add_zero, show ((Kd.slice 3 (Kd.int .i64))).sz = 1 from rfl, Nat.mul_one] at hv434_0
                                        replace hv434_0 := Option.some.inj (hv434_0.symm.trans hx434_0)
                                        rw [hv434_0] at ge434_0
                                        have HL434_0 := Aside0.mk (show Kd.R (Kd.int .i64) 3 _ _ _ _ (rd_L1 t425 x11_1) from ge434_0)
                                        clear hv434_0 ge434_0
                                        clear hcc434 hce434
                                        have HR434_0 := Aside0.mk hi434_0
                                        have HC434_0 := Aside0.mk hl434_0
                                        clear hi434_0 hl434_0
                                        replace p434 := eq_true p434
                                        replace q434 := eq_true q434
                                        have ea_ := Option.some.inj (hx431_0.symm.trans hx434_0)
                                        injection ea_ with ea_ en_ ec_
                                        subst ea_
                                        subst ec_
                                        clear en_
                                        have p435 : 0 ≤ ((ji23) : Int) := of_decide_eq_true (by first | (with_reducible assumption) | assumption)
                                        have q435 : (ji23) < ((rd_L1 t425 x11_1).length : Int) := of_decide_eq_true (by first | (with_reducible assumption) | assumption)
                                        obtain ⟨ad435, e435, hx435_0⟩ := Kd.at_int (by repeat (first | (with_reducible exact HR434_0.out) | (with_reducible refine Kd.C_alloc ?_ _) | (with_reducible refine Kd.C_drewN ?_ _) | (with_reducible refine Kd.C_drew ?_) | exact HR434_0.out)) (ji23) p435 q435
                                        cases e435
                                        replace p435 := eq_true p435
                                        replace q435 := eq_true q435
                                        have p29 : 0 ≤ ((rd (rd_L1 t425 x11_1) x12_2) : Int) := of_decide_eq_true (by first | (with_reducible assumption) | assumption)
                                        have q29 : ((rd (rd_L1 t425 x11_1) x12_2) : Int) < ((x9_2.length : Int) : Int) := of_decide_eq_true (by first | (with_reducible assumption) | assumption)
                                        obtain ⟨go29, co29, eo29, gb29, gl29, cl29, HG29⟩ := Kd.R_form HO_9.out (by omega)
                                        (first | cases eo29 | (injection eo29 with ea_ en_ ec_; (first | subst ea_ | (injection ea_ with ea_; subst ea_)); subst ec_; clear en_))
                                        have GB29 := Aside0.mk gb29
                                        have GG29 := Aside0.mk HG29
                                        clear gb29 gl29 HG29
                                        obtain ⟨hx29_0, hf29_0⟩ := Kd.R_celln 0 HO_9.out ((rd (rd_L1 t425 x11_1) x12_2) : Int) p29 q29
                                        replace p29 := eq_true p29
                                        replace q29 := eq_true q29
                                        have HP30 := Kd.R_putg HO_9.out ((rd (rd_L1 t425 x11_1) x12_2) : Int) x11_1
                                        go_wp2_with (first | ((with_reducible refine gate_store (t := 3) (p := 78) rfl ?_); (try (rw [drewN_self wr]; generalize hq_ : World.drewN wr _ = wr; have n0_ := Aside0.mk (Kd.R_at hq_ HO_7.out); have n1_ := Aside0.mk (Kd.S_at hq_ HO_8.out); have n2_ := Aside0.mk (Kd.R_at hq_ HO_9.out); have n3_ := Aside0.mk (Kd.R_at hq_ HL431_0.out); have n4_ := Aside0.mk (Kd.R_at hq_ HL432_0.out); have n5_ := Aside0.mk (Kd.R_at hq_ HL434_0.out); have n6_ := Aside0.mk (below_at hq_ HB.out); clear hq_ HO_7 HO_8 HO_9 HL431_0 HL432_0 HL434_0 HB; have HO_7 := n0_; have HO_8 := n1_; have HO_9 := n2_; have HL431_0 := n3_; have HL432_0 := n4_; have HL434_0 := n5_; have HB := n6_; clear n0_ n1_ n2_ n3_ n4_ n5_ n6_; (try (have HP30 := Kd.R_putg HO_9.out ((rd (rd_L1 t425 x11_1) x12_2) : Int) x11_1)))); refine store_event (t := 3) (p := 78) (v := ?vo_w31) (w1 := (wr.setCell ⟨go29, ((rd (rd_L1 t425 x11_1) x12_2) : Int).toNat, none⟩ (.int .i64 x11_1))) ?hg ?ho ?hn ?hr ?_; (case ho => rfl); (case hg => rfl); (case hn => rfl); (case hr => first | (go_simp; done) | (go_simp; rfl)); intro w31 hw; have hg : wr.grownBy w31 (some go29) := (by rw [hw]; exact HP30.2); have hp_ : Kd.R (Kd.int .i64) 3 w31 w.heap.size (fun _ => True) (.slice (some ⟨go29, 0, none⟩) x9_2.length co29) y436 := (by rw [hw, Ny436.out]; exact HP30.1); clear HP30; have n0_ := Aside0.mk (Kd.R_over' (v := (.slice (some ⟨go29, 0, none⟩) x9_2.length co29)) (by (with_reducible repeat (first | apply Kd.R_alloc | apply Kd.R_drewN | apply Kd.R_drew)); exact HO_7.out) (Kd.R_typed HO_9.out) (by decide) hg); have n1_ := Aside0.mk (Kd.S_after (v := (.slice (some ⟨go29, 0, none⟩) x9_2.length co29)) (v1 := (.slice (some ⟨go29, 0, none⟩) x9_2.length co29)) (ok := (fun _ => True)) (by (with_reducible repeat (first | apply Kd.S_alloc | apply Kd.S_drewN | apply Kd.S_drew)); exact Kd.S_mono HO_8.out (fun _ hk => ⟨trivial, hk⟩)) hg (.inl rfl)); have n2_ := Aside0.mk (hp_); have n3_ := Aside0.mk (Kd.R_after (v := (.slice (some ⟨go29, 0, none⟩) x9_2.length co29)) (v1 := (.slice (some ⟨go29, 0, none⟩) x9_2.length co29)) (ok := (fun k_ => some k_ ≠ (.slice (some ad431) t425.length co15 : Value).ownBlock)) (by (with_reducible repeat (first | apply Kd.R_alloc | apply Kd.R_drewN | apply Kd.R_drew)); exact Kd.R_mono HL431_0.out (fun _ hk => ⟨hk.2, hk.1⟩)) hg (.inl rfl)); have n4_ := Aside0.mk (Kd.R_after (v := (.slice (some ⟨go29, 0, none⟩) x9_2.length co29)) (v1 := (.slice (some ⟨go29, 0, none⟩) x9_2.length co29)) (ok := (fun k_ => some k_ ≠ (.slice (some ad431) t425.length co15 : Value).ownBlock)) (by (with_reducible repeat (first | apply Kd.R_alloc | apply Kd.R_drewN | apply Kd.R_drew)); exact Kd.R_mono HL432_0.out (fun _ hk => ⟨hk.2, hk.1⟩)) hg (.inl rfl)); have n5_ := Aside0.mk (Kd.R_after (v := (.slice (some ⟨go29, 0, none⟩) x9_2.length co29)) (v1 := (.slice (some ⟨go29, 0, none⟩) x9_2.length co29)) (ok := (fun k_ => some k_ ≠ (.slice (some ad431) t425.length co15 : Value).ownBlock)) (by (with_reducible repeat (first | apply Kd.R_alloc | apply Kd.R_drewN | apply Kd.R_drew)); exact Kd.R_mono HL434_0.out (fun _ hk => ⟨hk.2, hk.1⟩)) hg (.inl rfl)); have n6_ := Aside0.mk ((by rw [hw]; exact below_set (HB.out) GB29.out : Below w.heap.size w w31)); clear HO_7; clear HO_8; clear HO_9; clear HL431_0; clear HL432_0; clear HL434_0; clear HB; have HO_7 := n0_; have HO_8 := n1_; have HO_9 := n2_; have HL431_0 := n3_; have HL432_0 := n4_; have HL434_0 := n5_; have HB := n6_; clear n0_ n1_ n2_ n3_ n4_ n5_ n6_; clear hg hw hp_))
                                        repeat (go_quiet (first | ((with_reducible refine gate_store (t := 3) (p := 78) rfl ?_); (try (rw [drewN_self wr]; generalize hq_ : World.drewN wr _ = wr; have n0_ := Aside0.mk (Kd.R_at hq_ HO_7.out); have n1_ := Aside0.mk (Kd.S_at hq_ HO_8.out); have n2_ := Aside0.mk (Kd.R_at hq_ HO_9.out); have n3_ := Aside0.mk (Kd.R_at hq_ HL431_0.out); have n4_ := Aside0.mk (Kd.R_at hq_ HL432_0.out); have n5_ := Aside0.mk (Kd.R_at hq_ HL434_0.out); have n6_ := Aside0.mk (below_at hq_ HB.out); clear hq_ HO_7 HO_8 HO_9 HL431_0 HL432_0 HL434_0 HB; have HO_7 := n0_; have HO_8 := n1_; have HO_9 := n2_; have HL431_0 := n3_; have HL432_0 := n4_; have HL434_0 := n5_; have HB := n6_; clear n0_ n1_ n2_ n3_ n4_ n5_ n6_; (try (have HP30 := Kd.R_putg HO_9.out ((rd (rd_L1 t425 x11_1) x12_2) : Int) x11_1)))); refine store_event (t := 3) (p := 78) (v := ?vo_w31) (w1 := (wr.setCell ⟨go29, ((rd (rd_L1 t425 x11_1) x12_2) : Int).toNat, none⟩ (.int .i64 x11_1))) ?hg ?ho ?hn ?hr ?_; (case ho => rfl); (case hg => rfl); (case hn => rfl); (case hr => first | (go_simp; done) | (go_simp; rfl)); intro w31 hw; have hg : wr.grownBy w31 (some go29) := (by rw [hw]; exact HP30.2); have hp_ : Kd.R (Kd.int .i64) 3 w31 w.heap.size (fun _ => True) (.slice (some ⟨go29, 0, none⟩) x9_2.length co29) y436 := (by rw [hw, Ny436.out]; exact HP30.1); clear HP30; have n0_ := Aside0.mk (Kd.R_over' (v := (.slice (some ⟨go29, 0, none⟩) x9_2.length co29)) (by (with_reducible repeat (first | apply Kd.R_alloc | apply Kd.R_drewN | apply Kd.R_drew)); exact HO_7.out) (Kd.R_typed HO_9.out) (by decide) hg); have n1_ := Aside0.mk (Kd.S_after (v := (.slice (some ⟨go29, 0, none⟩) x9_2.length co29)) (v1 := (.slice (some ⟨go29, 0, none⟩) x9_2.length co29)) (ok := (fun _ => True)) (by (with_reducible repeat (first | apply Kd.S_alloc | apply Kd.S_drewN | apply Kd.S_drew)); exact Kd.S_mono HO_8.out (fun _ hk => ⟨trivial, hk⟩)) hg (.inl rfl)); have n2_ := Aside0.mk (hp_); have n3_ := Aside0.mk (Kd.R_after (v := (.slice (some ⟨go29, 0, none⟩) x9_2.length co29)) (v1 := (.slice (some ⟨go29, 0, none⟩) x9_2.length co29)) (ok := (fun k_ => some k_ ≠ (.slice (some ad431) t425.length co15 : Value).ownBlock)) (by (with_reducible repeat (first | apply Kd.R_alloc | apply Kd.R_drewN | apply Kd.R_drew)); exact Kd.R_mono HL431_0.out (fun _ hk => ⟨hk.2, hk.1⟩)) hg (.inl rfl)); have n4_ := Aside0.mk (Kd.R_after (v := (.slice (some ⟨go29, 0, none⟩) x9_2.length co29)) (v1 := (.slice (some ⟨go29, 0, none⟩) x9_2.length co29)) (ok := (fun k_ => some k_ ≠ (.slice (some ad431) t425.length co15 : Value).ownBlock)) (by (with_reducible repeat (first | apply Kd.R_alloc | apply Kd.R_drewN | apply Kd.R_drew)); exact Kd.R_mono HL432_0.out (fun _ hk => ⟨hk.2, hk.1⟩)) hg (.inl rfl)); have n5_ := Aside0.mk (Kd.R_after (v := (.slice (some ⟨go29, 0, none⟩) x9_2.length co29)) (v1 := (.slice (some ⟨go29, 0, none⟩) x9_2.length co29)) (ok := (fun k_ => some k_ ≠ (.slice (some ad431) t425.length co15 : Value).ownBlock)) (by (with_reducible repeat (first | apply Kd.R_alloc | apply Kd.R_drewN | apply Kd.R_drew)); exact Kd.R_mono HL434_0.out (fun _ hk => ⟨hk.2, hk.1⟩)) hg (.inl rfl)); have n6_ := Aside0.mk ((by rw [hw]; exact below_set (HB.out) GB29.out : Below w.heap.size w w31)); clear HO_7; clear HO_8; clear HO_9; clear HL431_0; clear HL432_0; clear HL434_0; clear HB; have HO_7 := n0_; have HO_8 := n1_; have HO_9 := n2_; have HL431_0 := n3_; have HL432_0 := n4_; have HL434_0 := n5_; have HB := n6_; clear n0_ n1_ n2_ n3_ n4_ n5_ n6_; clear hg hw hp_)); try go_wp2_with (first | ((with_reducible refine gate_store (t := 3) (p := 78) rfl ?_); (try (rw [drewN_self wr]; generalize hq_ : World.drewN wr _ = wr; have n0_ := Aside0.mk (Kd.R_at hq_ HO_7.out); have n1_ := Aside0.mk (Kd.S_at hq_ HO_8.out); have n2_ := Aside0.mk (Kd.R_at hq_ HO_9.out); have n3_ := Aside0.mk (Kd.R_at hq_ HL431_0.out); have n4_ := Aside0.mk (Kd.R_at hq_ HL432_0.out); have n5_ := Aside0.mk (Kd.R_at hq_ HL434_0.out); have n6_ := Aside0.mk (below_at hq_ HB.out); clear hq_ HO_7 HO_8 HO_9 HL431_0 HL432_0 HL434_0 HB; have HO_7 := n0_; have HO_8 := n1_; have HO_9 := n2_; have HL431_0 := n3_; have HL432_0 := n4_; have HL434_0 := n5_; have HB := n6_; clear n0_ n1_ n2_ n3_ n4_ n5_ n6_; (try (have HP30 := Kd.R_putg HO_9.out ((rd (rd_L1 t425 x11_1) x12_2) : Int) x11_1)))); refine store_event (t := 3) (p := 78) (v := ?vo_w31) (w1 := (wr.setCell ⟨go29, ((rd (rd_L1 t425 x11_1) x12_2) : Int).toNat, none⟩ (.int .i64 x11_1))) ?hg ?ho ?hn ?hr ?_; (case ho => rfl); (case hg => rfl); (case hn => rfl); (case hr => first | (go_simp; done) | (go_simp; rfl)); intro w31 hw; have hg : wr.grownBy w31 (some go29) := (by rw [hw]; exact HP30.2); have hp_ : Kd.R (Kd.int .i64) 3 w31 w.heap.size (fun _ => True) (.slice (some ⟨go29, 0, none⟩) x9_2.length co29) y436 := (by rw [hw, Ny436.out]; exact HP30.1); clear HP30; have n0_ := Aside0.mk (Kd.R_over' (v := (.slice (some ⟨go29, 0, none⟩) x9_2.length co29)) (by (with_reducible repeat (first | apply Kd.R_alloc | apply Kd.R_drewN | apply Kd.R_drew)); exact HO_7.out) (Kd.R_typed HO_9.out) (by decide) hg); have n1_ := Aside0.mk (Kd.S_after (v := (.slice (some ⟨go29, 0, none⟩) x9_2.length co29)) (v1 := (.slice (some ⟨go29, 0, none⟩) x9_2.length co29)) (ok := (fun _ => True)) (by (with_reducible repeat (first | apply Kd.S_alloc | apply Kd.S_drewN | apply Kd.S_drew)); exact Kd.S_mono HO_8.out (fun _ hk => ⟨trivial, hk⟩)) hg (.inl rfl)); have n2_ := Aside0.mk (hp_); have n3_ := Aside0.mk (Kd.R_after (v := (.slice (some ⟨go29, 0, none⟩) x9_2.length co29)) (v1 := (.slice (some ⟨go29, 0, none⟩) x9_2.length co29)) (ok := (fun k_ => some k_ ≠ (.slice (some ad431) t425.length co15 : Value).ownBlock)) (by (with_reducible repeat (first | apply Kd.R_alloc | apply Kd.R_drewN | apply Kd.R_drew)); exact Kd.R_mono HL431_0.out (fun _ hk => ⟨hk.2, hk.1⟩)) hg (.inl rfl)); have n4_ := Aside0.mk (Kd.R_after (v := (.slice (some ⟨go29, 0, none⟩) x9_2.length co29)) (v1 := (.slice (some ⟨go29, 0, none⟩) x9_2.length co29)) (ok := (fun k_ => some k_ ≠ (.slice (some ad431) t425.length co15 : Value).ownBlock)) (by (with_reducible repeat (first | apply Kd.R_alloc | apply Kd.R_drewN | apply Kd.R_drew)); exact Kd.R_mono HL432_0.out (fun _ hk => ⟨hk.2, hk.1⟩)) hg (.inl rfl)); have n5_ := Aside0.mk (Kd.R_after (v := (.slice (some ⟨go29, 0, none⟩) x9_2.length co29)) (v1 := (.slice (some ⟨go29, 0, none⟩) x9_2.length co29)) (ok := (fun k_ => some k_ ≠ (.slice (some ad431) t425.length co15 : Value).ownBlock)) (by (with_reducible repeat (first | apply Kd.R_alloc | apply Kd.R_drewN | apply Kd.R_drew)); exact Kd.R_mono HL434_0.out (fun _ hk => ⟨hk.2, hk.1⟩)) hg (.inl rfl)); have n6_ := Aside0.mk ((by rw [hw]; exact below_set (HB.out) GB29.out : Below w.heap.size w w31)); clear HO_7; clear HO_8; clear HO_9; clear HL431_0; clear HL432_0; clear HL434_0; clear HB; have HO_7 := n0_; have HO_8 := n1_; have HO_9 := n2_; have HL431_0 := n3_; have HL432_0 := n4_; have HL434_0 := n5_; have HB := n6_; clear n0_ n1_ n2_ n3_ n4_ n5_ n6_; clear hg hw hp_)))
                                        go_roundg k2
                                        case measure => have := HK1.out; have := HK2.out; omega
                                        case rel => exact ⟨(y436), (wrap64 (x10_2 + 1)), (wrap64 (x12_2 + 1)), (by first | rfl | (simp; done) | (simp [*]; done)), (by first | rfl | (simp; done) | (simp [*]; done)), H', ⟨by have := HK1.out; have := HK2.out; omega⟩, ⟨by (with_reducible repeat (first | apply Kd.R_alloc | apply Kd.R_drewN | apply Kd.R_drew)); exact HO_7.out⟩, ⟨by (with_reducible repeat (first | apply Kd.S_alloc | apply Kd.S_drewN | apply Kd.S_drew)); exact Kd.S_mono HO_8.out (fun _ hk => hk.2)⟩, ⟨by (with_reducible repeat (first | apply Kd.R_alloc | apply Kd.R_drewN | apply Kd.R_drew)); exact HO_9.out⟩, ⟨by repeat (first | (with_reducible first | exact HB.out | apply below_alloc | apply pw_below_drewN | apply below_drew1) | exact HB.out)⟩⟩
                                      · rw [if_neg c28] at H
                                        exact absurd H (by simp)
                                    · rw [if_neg c27] at H
                                      exact absurd H (by simp)
                                · rw [if_neg c25] at H
                                  exact absurd H (by simp)
                              · rw [if_neg c24] at H
                                exact absurd H (by simp)
                            · rw [if_neg c22] at H
                              have c22b0 : decide (0 < x12_2) = false := decide_eq_false c22
                              clear c22
                              by_cases c32 : 0 ≤ (rd (rd_L1 t425 x11_1) x12_2)
                              · rw [if_pos c32] at H
                                have c32b0 : decide (0 ≤ (rd (rd_L1 t425 x11_1) x12_2)) = true := decide_eq_true c32
                                clear c32
                                by_cases c33 : (rd (rd_L1 t425 x11_1) x12_2) < (x9_2.length : Int)
                                · rw [if_pos c33] at H
                                  have c33b0 : decide ((rd (rd_L1 t425 x11_1) x12_2) < (x9_2.length : Int)) = true := decide_eq_true c33
                                  clear c33
                                  obtain ⟨y437, hy437⟩ : ∃ y_ : List Int, y_ = (x9_2.set ((rd (rd_L1 t425 x11_1) x12_2) : Int).toNat x11_1) := ⟨_, rfl⟩
                                  replace H : (lambrequinlaw10_GraphParts.l1 k2 t420 t421 t422 t425 y437 (wrap64 (x10_2 + 1)) x11_1 (wrap64 (x12_2 + 1))) = some r := by first | (rw [hy437]; with_reducible exact H) | (have H2_ := (Option.bind_some _ _).symm.trans H; rw [hy437]; with_reducible exact H2_) | (have H2_ := (Option.bind_some _ _).symm.trans H; with_reducible exact H2_) | with_reducible exact H | (rw [hy437]; exact H) | exact H
                                  have Ny437 := Aside0.mk hy437
                                  clear hy437
                                  have H' := Aside0.mk H
                                  clear H
                                  have p431 : 0 ≤ (x11_1 : Int) := of_decide_eq_true (by first | (with_reducible assumption) | assumption)
                                  have q431 : x11_1 < (t425.length : Int) := of_decide_eq_true (by first | (with_reducible assumption) | assumption)
                                  obtain ⟨ad431, A431_0, c431_0, e431, hx431_0, hl431_0, hi431_0⟩ := at_L1 (Kd.S_reads' HO_8.out).2.2 x11_1 p431 q431
                                  cases e431
                                  obtain ⟨ce431, hce431, hMe431, hcc431⟩ := Kd.S_get HO_8.out [] x11_1 p431 (by first | exact q431 | exact of_decide_eq_true (by first | (with_reducible assumption) | assumption) | (have e_ := (Kd.S_reads' HO_8.out).1; omega))
                                  obtain ⟨ve431_0, rfl, ge431_0⟩ := hMe431
                                  have hv431_0 := hcc431 0 _ rfl
                                  rw [Nat.add_zero, show ((Kd.slice 3 (Kd.int .i64))).sz = 1 from rfl, Nat.mul_one] at hv431_0
                                  replace hv431_0 := Option.some.inj (hv431_0.symm.trans hx431_0)
                                  rw [hv431_0] at ge431_0
                                  have HL431_0 := Aside0.mk (show Kd.R (Kd.int .i64) 3 _ _ _ _ (rd_L1 t425 x11_1) from ge431_0)
                                  clear hv431_0 ge431_0
                                  clear hcc431 hce431
                                  have HR431_0 := Aside0.mk hi431_0
                                  have HC431_0 := Aside0.mk hl431_0
                                  clear hi431_0 hl431_0
                                  replace p431 := eq_true p431
                                  replace q431 := eq_true q431
                                  have p432 : 0 ≤ (x11_1 : Int) := of_decide_eq_true (by first | (with_reducible assumption) | assumption)
                                  have q432 : x11_1 < (t425.length : Int) := of_decide_eq_true (by first | (with_reducible assumption) | assumption)
                                  obtain ⟨ad432, A432_0, c432_0, e432, hx432_0, hl432_0, hi432_0⟩ := at_L1 (Kd.S_reads' HO_8.out).2.2 x11_1 p432 q432
                                  obtain rfl : ad431 = ad432 := (by injection e432)
                                  obtain ⟨ce432, hce432, hMe432, hcc432⟩ := Kd.S_get HO_8.out [] x11_1 p432 (by first | exact q432 | exact of_decide_eq_true (by first | (with_reducible assumption) | assumption) | (have e_ := (Kd.S_reads' HO_8.out).1; omega))
                                  obtain ⟨ve432_0, rfl, ge432_0⟩ := hMe432
                                  have hv432_0 := hcc432 0 _ rfl
                                  rw [Nat.add_zero, show ((Kd.slice 3 (Kd.int .i64))).sz = 1 from rfl, Nat.mul_one] at hv432_0
                                  replace hv432_0 := Option.some.inj (hv432_0.symm.trans hx432_0)
                                  rw [hv432_0] at ge432_0
                                  have HL432_0 := Aside0.mk (show Kd.R (Kd.int .i64) 3 _ _ _ _ (rd_L1 t425 x11_1) from ge432_0)
                                  clear hv432_0 ge432_0
                                  clear hcc432 hce432
                                  have HR432_0 := Aside0.mk hi432_0
                                  have HC432_0 := Aside0.mk hl432_0
                                  clear hi432_0 hl432_0
                                  replace p432 := eq_true p432
                                  replace q432 := eq_true q432
                                  have ea_ := Option.some.inj (hx431_0.symm.trans hx432_0)
                                  injection ea_ with ea_ en_ ec_
                                  subst ea_
                                  subst ec_
                                  clear en_
                                  have p433 : 0 ≤ (x12_2 : Int) := of_decide_eq_true (by first | (with_reducible assumption) | assumption)
                                  have q433 : x12_2 < ((rd_L1 t425 x11_1).length : Int) := of_decide_eq_true (by first | (with_reducible assumption) | assumption)
                                  obtain ⟨ad433, e433, hx433_0⟩ := Kd.at_int (by repeat (first | (with_reducible exact HR432_0.out) | (with_reducible refine Kd.C_alloc ?_ _) | (with_reducible refine Kd.C_drewN ?_ _) | (with_reducible refine Kd.C_drew ?_) | exact HR432_0.out)) x12_2 p433 q433
                                  cases e433
                                  replace p433 := eq_true p433
                                  replace q433 := eq_true q433
                                  have p34 : 0 ≤ ((rd (rd_L1 t425 x11_1) x12_2) : Int) := of_decide_eq_true (by first | (with_reducible assumption) | assumption)
                                  have q34 : ((rd (rd_L1 t425 x11_1) x12_2) : Int) < ((x9_2.length : Int) : Int) := of_decide_eq_true (by first | (with_reducible assumption) | assumption)
                                  obtain ⟨go34, co34, eo34, gb34, gl34, cl34, HG34⟩ := Kd.R_form HO_9.out (by omega)
                                  (first | cases eo34 | (injection eo34 with ea_ en_ ec_; (first | subst ea_ | (injection ea_ with ea_; subst ea_)); subst ec_; clear en_))
                                  have GB34 := Aside0.mk gb34
                                  have GG34 := Aside0.mk HG34
                                  clear gb34 gl34 HG34
                                  obtain ⟨hx34_0, hf34_0⟩ := Kd.R_celln 0 HO_9.out ((rd (rd_L1 t425 x11_1) x12_2) : Int) p34 q34
                                  replace p34 := eq_true p34
                                  replace q34 := eq_true q34
                                  have HP35 := Kd.R_putg HO_9.out ((rd (rd_L1 t425 x11_1) x12_2) : Int) x11_1
                                  go_wp2_with (first | ((with_reducible refine gate_store (t := 3) (p := 78) rfl ?_); (try (rw [drewN_self wr]; generalize hq_ : World.drewN wr _ = wr; have n0_ := Aside0.mk (Kd.R_at hq_ HO_7.out); have n1_ := Aside0.mk (Kd.S_at hq_ HO_8.out); have n2_ := Aside0.mk (Kd.R_at hq_ HO_9.out); have n3_ := Aside0.mk (Kd.R_at hq_ HL431_0.out); have n4_ := Aside0.mk (Kd.R_at hq_ HL432_0.out); have n5_ := Aside0.mk (below_at hq_ HB.out); clear hq_ HO_7 HO_8 HO_9 HL431_0 HL432_0 HB; have HO_7 := n0_; have HO_8 := n1_; have HO_9 := n2_; have HL431_0 := n3_; have HL432_0 := n4_; have HB := n5_; clear n0_ n1_ n2_ n3_ n4_ n5_; (try (have HP35 := Kd.R_putg HO_9.out ((rd (rd_L1 t425 x11_1) x12_2) : Int) x11_1)))); refine store_event (t := 3) (p := 78) (v := ?vo_w36) (w1 := (wr.setCell ⟨go34, ((rd (rd_L1 t425 x11_1) x12_2) : Int).toNat, none⟩ (.int .i64 x11_1))) ?hg ?ho ?hn ?hr ?_; (case ho => rfl); (case hg => rfl); (case hn => rfl); (case hr => first | (go_simp; done) | (go_simp; rfl)); intro w36 hw; have hg : wr.grownBy w36 (some go34) := (by rw [hw]; exact HP35.2); have hp_ : Kd.R (Kd.int .i64) 3 w36 w.heap.size (fun _ => True) (.slice (some ⟨go34, 0, none⟩) x9_2.length co34) y437 := (by rw [hw, Ny437.out]; exact HP35.1); clear HP35; have n0_ := Aside0.mk (Kd.R_over' (v := (.slice (some ⟨go34, 0, none⟩) x9_2.length co34)) (by (with_reducible repeat (first | apply Kd.R_alloc | apply Kd.R_drewN | apply Kd.R_drew)); exact HO_7.out) (Kd.R_typed HO_9.out) (by decide) hg); have n1_ := Aside0.mk (Kd.S_after (v := (.slice (some ⟨go34, 0, none⟩) x9_2.length co34)) (v1 := (.slice (some ⟨go34, 0, none⟩) x9_2.length co34)) (ok := (fun _ => True)) (by (with_reducible repeat (first | apply Kd.S_alloc | apply Kd.S_drewN | apply Kd.S_drew)); exact Kd.S_mono HO_8.out (fun _ hk => ⟨trivial, hk⟩)) hg (.inl rfl)); have n2_ := Aside0.mk (hp_); have n3_ := Aside0.mk (Kd.R_after (v := (.slice (some ⟨go34, 0, none⟩) x9_2.length co34)) (v1 := (.slice (some ⟨go34, 0, none⟩) x9_2.length co34)) (ok := (fun k_ => some k_ ≠ (.slice (some ad431) t425.length co15 : Value).ownBlock)) (by (with_reducible repeat (first | apply Kd.R_alloc | apply Kd.R_drewN | apply Kd.R_drew)); exact Kd.R_mono HL431_0.out (fun _ hk => ⟨hk.2, hk.1⟩)) hg (.inl rfl)); have n4_ := Aside0.mk (Kd.R_after (v := (.slice (some ⟨go34, 0, none⟩) x9_2.length co34)) (v1 := (.slice (some ⟨go34, 0, none⟩) x9_2.length co34)) (ok := (fun k_ => some k_ ≠ (.slice (some ad431) t425.length co15 : Value).ownBlock)) (by (with_reducible repeat (first | apply Kd.R_alloc | apply Kd.R_drewN | apply Kd.R_drew)); exact Kd.R_mono HL432_0.out (fun _ hk => ⟨hk.2, hk.1⟩)) hg (.inl rfl)); have n5_ := Aside0.mk ((by rw [hw]; exact below_set (HB.out) GB34.out : Below w.heap.size w w36)); clear HO_7; clear HO_8; clear HO_9; clear HL431_0; clear HL432_0; clear HB; have HO_7 := n0_; have HO_8 := n1_; have HO_9 := n2_; have HL431_0 := n3_; have HL432_0 := n4_; have HB := n5_; clear n0_ n1_ n2_ n3_ n4_ n5_; clear hg hw hp_))
                                  repeat (go_quiet (first | ((with_reducible refine gate_store (t := 3) (p := 78) rfl ?_); (try (rw [drewN_self wr]; generalize hq_ : World.drewN wr _ = wr; have n0_ := Aside0.mk (Kd.R_at hq_ HO_7.out); have n1_ := Aside0.mk (Kd.S_at hq_ HO_8.out); have n2_ := Aside0.mk (Kd.R_at hq_ HO_9.out); have n3_ := Aside0.mk (Kd.R_at hq_ HL431_0.out); have n4_ := Aside0.mk (Kd.R_at hq_ HL432_0.out); have n5_ := Aside0.mk (below_at hq_ HB.out); clear hq_ HO_7 HO_8 HO_9 HL431_0 HL432_0 HB; have HO_7 := n0_; have HO_8 := n1_; have HO_9 := n2_; have HL431_0 := n3_; have HL432_0 := n4_; have HB := n5_; clear n0_ n1_ n2_ n3_ n4_ n5_; (try (have HP35 := Kd.R_putg HO_9.out ((rd (rd_L1 t425 x11_1) x12_2) : Int) x11_1)))); refine store_event (t := 3) (p := 78) (v := ?vo_w36) (w1 := (wr.setCell ⟨go34, ((rd (rd_L1 t425 x11_1) x12_2) : Int).toNat, none⟩ (.int .i64 x11_1))) ?hg ?ho ?hn ?hr ?_; (case ho => rfl); (case hg => rfl); (case hn => rfl); (case hr => first | (go_simp; done) | (go_simp; rfl)); intro w36 hw; have hg : wr.grownBy w36 (some go34) := (by rw [hw]; exact HP35.2); have hp_ : Kd.R (Kd.int .i64) 3 w36 w.heap.size (fun _ => True) (.slice (some ⟨go34, 0, none⟩) x9_2.length co34) y437 := (by rw [hw, Ny437.out]; exact HP35.1); clear HP35; have n0_ := Aside0.mk (Kd.R_over' (v := (.slice (some ⟨go34, 0, none⟩) x9_2.length co34)) (by (with_reducible repeat (first | apply Kd.R_alloc | apply Kd.R_drewN | apply Kd.R_drew)); exact HO_7.out) (Kd.R_typed HO_9.out) (by decide) hg); have n1_ := Aside0.mk (Kd.S_after (v := (.slice (some ⟨go34, 0, none⟩) x9_2.length co34)) (v1 := (.slice (some ⟨go34, 0, none⟩) x9_2.length co34)) (ok := (fun _ => True)) (by (with_reducible repeat (first | apply Kd.S_alloc | apply Kd.S_drewN | apply Kd.S_drew)); exact Kd.S_mono HO_8.out (fun _ hk => ⟨trivial, hk⟩)) hg (.inl rfl)); have n2_ := Aside0.mk (hp_); have n3_ := Aside0.mk (Kd.R_after (v := (.slice (some ⟨go34, 0, none⟩) x9_2.length co34)) (v1 := (.slice (some ⟨go34, 0, none⟩) x9_2.length co34)) (ok := (fun k_ => some k_ ≠ (.slice (some ad431) t425.length co15 : Value).ownBlock)) (by (with_reducible repeat (first | apply Kd.R_alloc | apply Kd.R_drewN | apply Kd.R_drew)); exact Kd.R_mono HL431_0.out (fun _ hk => ⟨hk.2, hk.1⟩)) hg (.inl rfl)); have n4_ := Aside0.mk (Kd.R_after (v := (.slice (some ⟨go34, 0, none⟩) x9_2.length co34)) (v1 := (.slice (some ⟨go34, 0, none⟩) x9_2.length co34)) (ok := (fun k_ => some k_ ≠ (.slice (some ad431) t425.length co15 : Value).ownBlock)) (by (with_reducible repeat (first | apply Kd.R_alloc | apply Kd.R_drewN | apply Kd.R_drew)); exact Kd.R_mono HL432_0.out (fun _ hk => ⟨hk.2, hk.1⟩)) hg (.inl rfl)); have n5_ := Aside0.mk ((by rw [hw]; exact below_set (HB.out) GB34.out : Below w.heap.size w w36)); clear HO_7; clear HO_8; clear HO_9; clear HL431_0; clear HL432_0; clear HB; have HO_7 := n0_; have HO_8 := n1_; have HO_9 := n2_; have HL431_0 := n3_; have HL432_0 := n4_; have HB := n5_; clear n0_ n1_ n2_ n3_ n4_ n5_; clear hg hw hp_)); try go_wp2_with (first | ((with_reducible refine gate_store (t := 3) (p := 78) rfl ?_); (try (rw [drewN_self wr]; generalize hq_ : World.drewN wr _ = wr; have n0_ := Aside0.mk (Kd.R_at hq_ HO_7.out); have n1_ := Aside0.mk (Kd.S_at hq_ HO_8.out); have n2_ := Aside0.mk (Kd.R_at hq_ HO_9.out); have n3_ := Aside0.mk (Kd.R_at hq_ HL431_0.out); have n4_ := Aside0.mk (Kd.R_at hq_ HL432_0.out); have n5_ := Aside0.mk (below_at hq_ HB.out); clear hq_ HO_7 HO_8 HO_9 HL431_0 HL432_0 HB; have HO_7 := n0_; have HO_8 := n1_; have HO_9 := n2_; have HL431_0 := n3_; have HL432_0 := n4_; have HB := n5_; clear n0_ n1_ n2_ n3_ n4_ n5_; (try (have HP35 := Kd.R_putg HO_9.out ((rd (rd_L1 t425 x11_1) x12_2) : Int) x11_1)))); refine store_event (t := 3) (p := 78) (v := ?vo_w36) (w1 := (wr.setCell ⟨go34, ((rd (rd_L1 t425 x11_1) x12_2) : Int).toNat, none⟩ (.int .i64 x11_1))) ?hg ?ho ?hn ?hr ?_; (case ho => rfl); (case hg => rfl); (case hn => rfl); (case hr => first | (go_simp; done) | (go_simp; rfl)); intro w36 hw; have hg : wr.grownBy w36 (some go34) := (by rw [hw]; exact HP35.2); have hp_ : Kd.R (Kd.int .i64) 3 w36 w.heap.size (fun _ => True) (.slice (some ⟨go34, 0, none⟩) x9_2.length co34) y437 := (by rw [hw, Ny437.out]; exact HP35.1); clear HP35; have n0_ := Aside0.mk (Kd.R_over' (v := (.slice (some ⟨go34, 0, none⟩) x9_2.length co34)) (by (with_reducible repeat (first | apply Kd.R_alloc | apply Kd.R_drewN | apply Kd.R_drew)); exact HO_7.out) (Kd.R_typed HO_9.out) (by decide) hg); have n1_ := Aside0.mk (Kd.S_after (v := (.slice (some ⟨go34, 0, none⟩) x9_2.length co34)) (v1 := (.slice (some ⟨go34, 0, none⟩) x9_2.length co34)) (ok := (fun _ => True)) (by (with_reducible repeat (first | apply Kd.S_alloc | apply Kd.S_drewN | apply Kd.S_drew)); exact Kd.S_mono HO_8.out (fun _ hk => ⟨trivial, hk⟩)) hg (.inl rfl)); have n2_ := Aside0.mk (hp_); have n3_ := Aside0.mk (Kd.R_after (v := (.slice (some ⟨go34, 0, none⟩) x9_2.length co34)) (v1 := (.slice (some ⟨go34, 0, none⟩) x9_2.length co34)) (ok := (fun k_ => some k_ ≠ (.slice (some ad431) t425.length co15 : Value).ownBlock)) (by (with_reducible repeat (first | apply Kd.R_alloc | apply Kd.R_drewN | apply Kd.R_drew)); exact Kd.R_mono HL431_0.out (fun _ hk => ⟨hk.2, hk.1⟩)) hg (.inl rfl)); have n4_ := Aside0.mk (Kd.R_after (v := (.slice (some ⟨go34, 0, none⟩) x9_2.length co34)) (v1 := (.slice (some ⟨go34, 0, none⟩) x9_2.length co34)) (ok := (fun k_ => some k_ ≠ (.slice (some ad431) t425.length co15 : Value).ownBlock)) (by (with_reducible repeat (first | apply Kd.R_alloc | apply Kd.R_drewN | apply Kd.R_drew)); exact Kd.R_mono HL432_0.out (fun _ hk => ⟨hk.2, hk.1⟩)) hg (.inl rfl)); have n5_ := Aside0.mk ((by rw [hw]; exact below_set (HB.out) GB34.out : Below w.heap.size w w36)); clear HO_7; clear HO_8; clear HO_9; clear HL431_0; clear HL432_0; clear HB; have HO_7 := n0_; have HO_8 := n1_; have HO_9 := n2_; have HL431_0 := n3_; have HL432_0 := n4_; have HB := n5_; clear n0_ n1_ n2_ n3_ n4_ n5_; clear hg hw hp_)))
                                  go_roundg k2
                                  case measure => have := HK1.out; have := HK2.out; omega
                                  case rel => exact ⟨(y437), (wrap64 (x10_2 + 1)), (wrap64 (x12_2 + 1)), (by first | rfl | (simp; done) | (simp [*]; done)), (by first | rfl | (simp; done) | (simp [*]; done)), H', ⟨by have := HK1.out; have := HK2.out; omega⟩, ⟨by (with_reducible repeat (first | apply Kd.R_alloc | apply Kd.R_drewN | apply Kd.R_drew)); exact HO_7.out⟩, ⟨by (with_reducible repeat (first | apply Kd.S_alloc | apply Kd.S_drewN | apply Kd.S_drew)); exact Kd.S_mono HO_8.out (fun _ hk => hk.2)⟩, ⟨by (with_reducible repeat (first | apply Kd.R_alloc | apply Kd.R_drewN | apply Kd.R_drew)); exact HO_9.out⟩, ⟨by repeat (first | (with_reducible first | exact HB.out | apply below_alloc | apply pw_below_drewN | apply below_drew1) | exact HB.out)⟩⟩
                                · rw [if_neg c33] at H
                                  exact absurd H (by simp)
                              · rw [if_neg c32] at H
                                exact absurd H (by simp)
                      · rw [if_neg c19] at H
                        exact absurd H (by simp)
                    · rw [if_neg c18] at H
                      have c18b0 : decide (x12_2 < ((rd_L1 t425 x11_1).length : Int)) = false := decide_eq_false c18
                      clear c18
                      have H' := Aside0.mk H
                      clear H
                      have p431 : 0 ≤ (x11_1 : Int) := of_decide_eq_true (by first | (with_reducible assumption) | assumption)
                      have q431 : x11_1 < (t425.length : Int) := of_decide_eq_true (by first | (with_reducible assumption) | assumption)
                      obtain ⟨ad431, A431_0, c431_0, e431, hx431_0, hl431_0, hi431_0⟩ := at_L1 (Kd.S_reads' HO_8.out).2.2 x11_1 p431 q431
                      cases e431
                      obtain ⟨ce431, hce431, hMe431, hcc431⟩ := Kd.S_get HO_8.out [] x11_1 p431 (by first | exact q431 | exact of_decide_eq_true (by first | (with_reducible assumption) | assumption) | (have e_ := (Kd.S_reads' HO_8.out).1; omega))
                      obtain ⟨ve431_0, rfl, ge431_0⟩ := hMe431
                      have hv431_0 := hcc431 0 _ rfl
                      rw [Nat.add_zero, show ((Kd.slice 3 (Kd.int .i64))).sz = 1 from rfl, Nat.mul_one] at hv431_0
                      replace hv431_0 := Option.some.inj (hv431_0.symm.trans hx431_0)
                      rw [hv431_0] at ge431_0
                      have HL431_0 := Aside0.mk (show Kd.R (Kd.int .i64) 3 _ _ _ _ (rd_L1 t425 x11_1) from ge431_0)
                      clear hv431_0 ge431_0
                      clear hcc431 hce431
                      have HR431_0 := Aside0.mk hi431_0
                      have HC431_0 := Aside0.mk hl431_0
                      clear hi431_0 hl431_0
                      replace p431 := eq_true p431
                      replace q431 := eq_true q431
                      go_wp2
                      repeat (go_quiet (fail); try go_wp2)
                      go_roundg k2
                      case measure => have := HK1.out; have := HK2.out; omega
                      case rel => exact ⟨(x9_2), (x10_2), (wrap64 (x11_1 + 1)), (by first | rfl | (simp; done) | (simp [*]; done)), (by first | rfl | (simp; done) | (simp [*]; done)), H', ⟨by have := HK1.out; have := HK2.out; omega⟩, ⟨by (with_reducible repeat (first | apply Kd.R_alloc | apply Kd.R_drewN | apply Kd.R_drew)); exact HO_7.out⟩, ⟨by (with_reducible repeat (first | apply Kd.S_alloc | apply Kd.S_drewN | apply Kd.S_drew)); exact HO_8.out⟩, ⟨by (with_reducible repeat (first | apply Kd.R_alloc | apply Kd.R_drewN | apply Kd.R_drew)); exact HO_9.out⟩, ⟨by repeat (first | (with_reducible first | exact HB.out | apply below_alloc | apply pw_below_drewN | apply below_drew1) | exact HB.out)⟩⟩
                  · rw [if_neg c17] at H
                    exact absurd H (by simp)
                · rw [if_neg c16] at H
                  exact absurd H (by simp)
          · rw [if_neg c14] at H
            have c14b0 : decide (x11_1 < (t425.length : Int)) = false := decide_eq_false c14
            clear c14
            have H' := Aside0.mk H
            clear H
            obtain ⟨Ao37, co37, eo37⟩ := Kd.S_slice HO_8.out
            subst eo37
            go_wp2
            repeat (go_quiet (fail); try go_wp2)
            go_loopg [14] k1 (fun kq v14 w' => ∃ (x14_2 : Int), v14 = .int .i64 x14_2 ∧ Aside0 (lambrequinlaw10_GraphParts.l2 kq t420 t421 t422 x9_1 x10_1 x14_2 = some r) ∧ Aside0 (kq ≤ k1) ∧ Aside0 (Kd.R k27 27 w' w.heap.size (fun _ => True) (.slice Ao10 t422.length co10) t422) ∧ Aside0 (Kd.R (Kd.int .i64) 3 w' w.heap.size (fun _ => True) v429 x9_1) ∧ Aside0 (Below w.heap.size w w'))
            case atStart => exact ⟨(0), (by first | rfl | (simp; done) | (simp [*]; done)), H', ⟨Nat.le_refl _⟩, ⟨by (with_reducible repeat (first | apply Kd.R_alloc | apply Kd.R_drewN | apply Kd.R_drew)); exact HO_7.out⟩, ⟨by (with_reducible repeat (first | apply Kd.R_alloc | apply Kd.R_drewN | apply Kd.R_drew)); exact HO_9.out⟩, ⟨by repeat (first | (with_reducible first | exact HB.out | apply below_alloc | apply pw_below_drewN | apply below_drew1) | exact HB.out)⟩⟩
            case round =>
              clear H'
              try clear c1
              try clear c2
              try clear p2
              try clear q2
              try clear hx2
              try clear hf2
              try clear c3
              try clear p3
              try clear q3
              try clear hx3
              try clear hf3
              try clear c4
              try clear p4
              try clear q4
              try clear hx4
              try clear c5
              try clear c6
              try clear c6b0
              try clear c6b1
              try clear p6
              try clear c7
              try clear c7b0
              try clear c7b1
              try clear c14
              try clear c14b0
              try clear c16
              try clear c16b0
              try clear c17
              try clear c17b0
              try clear c18
              try clear c18b0
              try clear c19
              try clear c19b0
              try clear c20
              try clear c20b0
              try clear c21
              try clear c21b0
              try clear c22
              try clear c22b0
              try clear c24
              try clear c24b0
              try clear c25
              try clear c25b0
              try clear c26
              try clear c26b0
              try clear c27
              try clear c27b0
              try clear c28
              try clear c28b0
              try clear p29
              try clear q29
              try clear hx29
              try clear hf29
              try clear c32
              try clear c32b0
              try clear c33
              try clear c33b0
              try clear p34
              try clear q34
              try clear hx34
              try clear hf34
              try clear hx29_0
              try clear hx34_0
              try clear hx431_0
              try clear hx432_0
              try clear hx433_0
              try clear hx434_0
              try clear hx435_0
              try clear p2
              try clear p29
              try clear p34
              try clear p431
              try clear p432
              try clear p433
              try clear p434
              try clear p435
              try clear q29
              try clear q34
              try clear q431
              try clear q432
              try clear q433
              try clear q434
              try clear q435
              obtain ⟨x14_2, rfl, HA, HK2, HO_7, HO_9, HB⟩ := hrel
              cases gk with
              | zero => exact absurd HA.out (by simp [lambrequinlaw10_GraphParts.l2])
              | succ k2 =>
                have H := HA.out
                clear HA
                simp only [lambrequinlaw10_GraphParts.l2] at H
                by_cases c38 : x14_2 < t421
                · rw [if_pos c38] at H
                  have c38b0 : decide (x14_2 < t421) = true := decide_eq_true c38
                  clear c38
                  replace H := Option.bind_eq_some_iff.mp H
                  obtain ⟨t438, A390, H⟩ := H
                  replace H : (lambrequinlaw10_GraphParts.l3 k2 t420 t421 t422 x9_1 x10_1 x14_2 t438 0) = some r := H
                  have A39 := Aside0.mk A390
                  clear A390
                  have H' := Aside0.mk H
                  clear H
                  go_wp2_with (first | (go_at_call 22; (with_reducible refine (graph_Reach.calls k2 t421 _ _ t422 x14_2 t438 _ ?side1 ?side2 A39.out).mono ?_); (case side1 => repeat (first | exact (Kd.R_reads' HO_7.out).2.2 | (with_reducible refine Kd.C_alloc ?_ _) | (with_reducible refine Kd.C_drewN ?_ _) | (with_reducible refine Kd.C_drew ?_))); (case side2 => exact (Kd.R_reads' HO_7.out).2.1); rintro e w40 ⟨v439, rfl, ho0, hb⟩; have n0_ := Aside0.mk (Kd.R_below (by (with_reducible repeat (first | apply Kd.R_alloc | apply Kd.R_drewN | apply Kd.R_drew)); exact HO_7.out) hb); have n1_ := Aside0.mk (Kd.R_below (by (with_reducible repeat (first | apply Kd.R_alloc | apply Kd.R_drewN | apply Kd.R_drew)); exact HO_9.out) hb); have n2_ := Aside0.mk (Kd.R_lower ho0 (below_size (by repeat (first | (with_reducible first | exact HB.out | apply below_alloc | apply pw_below_drewN | apply below_drew1) | exact HB.out)))); have n3_ := Aside0.mk (below_step (by repeat (first | (with_reducible first | exact HB.out | apply below_alloc | apply pw_below_drewN | apply below_drew1) | exact HB.out)) hb); clear HO_7; clear HO_9; clear HB; have HO_7 := n0_; have HO_9 := n1_; have HO440 := n2_; have HB := n3_; clear n0_ n1_ n2_ n3_; (try clear hb); (try clear hb2); (try clear hk); (try clear hi); (try clear ho0)))
                  repeat (go_quiet (first | (go_at_call 22; (with_reducible refine (graph_Reach.calls k2 t421 _ _ t422 x14_2 t438 _ ?side1 ?side2 A39.out).mono ?_); (case side1 => repeat (first | exact (Kd.R_reads' HO_7.out).2.2 | (with_reducible refine Kd.C_alloc ?_ _) | (with_reducible refine Kd.C_drewN ?_ _) | (with_reducible refine Kd.C_drew ?_))); (case side2 => exact (Kd.R_reads' HO_7.out).2.1); rintro e w40 ⟨v439, rfl, ho0, hb⟩; have n0_ := Aside0.mk (Kd.R_below (by (with_reducible repeat (first | apply Kd.R_alloc | apply Kd.R_drewN | apply Kd.R_drew)); exact HO_7.out) hb); have n1_ := Aside0.mk (Kd.R_below (by (with_reducible repeat (first | apply Kd.R_alloc | apply Kd.R_drewN | apply Kd.R_drew)); exact HO_9.out) hb); have n2_ := Aside0.mk (Kd.R_lower ho0 (below_size (by repeat (first | (with_reducible first | exact HB.out | apply below_alloc | apply pw_below_drewN | apply below_drew1) | exact HB.out)))); have n3_ := Aside0.mk (below_step (by repeat (first | (with_reducible first | exact HB.out | apply below_alloc | apply pw_below_drewN | apply below_drew1) | exact HB.out)) hb); clear HO_7; clear HO_9; clear HB; have HO_7 := n0_; have HO_9 := n1_; have HO440 := n2_; have HB := n3_; clear n0_ n1_ n2_ n3_; (try clear hb); (try clear hb2); (try clear hk); (try clear hi); (try clear ho0))); try go_wp2_with (first | (go_at_call 22; (with_reducible refine (graph_Reach.calls k2 t421 _ _ t422 x14_2 t438 _ ?side1 ?side2 A39.out).mono ?_); (case side1 => repeat (first | exact (Kd.R_reads' HO_7.out).2.2 | (with_reducible refine Kd.C_alloc ?_ _) | (with_reducible refine Kd.C_drewN ?_ _) | (with_reducible refine Kd.C_drew ?_))); (case side2 => exact (Kd.R_reads' HO_7.out).2.1); rintro e w40 ⟨v439, rfl, ho0, hb⟩; have n0_ := Aside0.mk (Kd.R_below (by (with_reducible repeat (first | apply Kd.R_alloc | apply Kd.R_drewN | apply Kd.R_drew)); exact HO_7.out) hb); have n1_ := Aside0.mk (Kd.R_below (by (with_reducible repeat (first | apply Kd.R_alloc | apply Kd.R_drewN | apply Kd.R_drew)); exact HO_9.out) hb); have n2_ := Aside0.mk (Kd.R_lower ho0 (below_size (by repeat (first | (with_reducible first | exact HB.out | apply below_alloc | apply pw_below_drewN | apply below_drew1) | exact HB.out)))); have n3_ := Aside0.mk (below_step (by repeat (first | (with_reducible first | exact HB.out | apply below_alloc | apply pw_below_drewN | apply below_drew1) | exact HB.out)) hb); clear HO_7; clear HO_9; clear HB; have HO_7 := n0_; have HO_9 := n1_; have HO440 := n2_; have HB := n3_; clear n0_ n1_ n2_ n3_; (try clear hb); (try clear hb2); (try clear hk); (try clear hi); (try clear ho0))))
                  go_loopg [16] k2 (fun kq v16 w' => ∃ (x16_3 : Int), v16 = .int .i64 x16_3 ∧ Aside0 (lambrequinlaw10_GraphParts.l3 kq t420 t421 t422 x9_1 x10_1 x14_2 t438 x16_3 = some r) ∧ Aside0 (kq ≤ k2) ∧ Aside0 (Kd.R k27 27 w' w.heap.size (fun _ => True) (.slice Ao10 t422.length co10) t422) ∧ Aside0 (Kd.R (Kd.int .i64) 3 w' w.heap.size (fun _ => True) v429 x9_1) ∧ Aside0 (Kd.R Kd.bool 4 w' w.heap.size (fun _ => True) v439 t438) ∧ Aside0 (Below w.heap.size w w'))
                  case atStart => exact ⟨(0), (by first | rfl | (simp; done) | (simp [*]; done)), H', ⟨Nat.le_refl _⟩, ⟨by (with_reducible repeat (first | apply Kd.R_alloc | apply Kd.R_drewN | apply Kd.R_drew)); exact HO_7.out⟩, ⟨by (with_reducible repeat (first | apply Kd.R_alloc | apply Kd.R_drewN | apply Kd.R_drew)); exact HO_9.out⟩, ⟨by (with_reducible repeat (first | apply Kd.R_alloc | apply Kd.R_drewN | apply Kd.R_drew)); exact HO440.out⟩, ⟨by repeat (first | (with_reducible first | exact HB.out | apply below_alloc | apply pw_below_drewN | apply below_drew1) | exact HB.out)⟩⟩
                  case round =>
                    clear H'
                    try clear c1
                    try clear c2
                    try clear p2
                    try clear q2
                    try clear hx2
                    try clear hf2
                    try clear c3
                    try clear p3
                    try clear q3
                    try clear hx3
                    try clear hf3
                    try clear c4
                    try clear p4
                    try clear q4
                    try clear hx4
                    try clear c5
                    try clear c6
                    try clear c6b0
                    try clear c6b1
                    try clear p6
                    try clear c7
                    try clear c7b0
                    try clear c7b1
                    try clear c14
                    try clear c14b0
                    try clear c16
                    try clear c16b0
                    try clear c17
                    try clear c17b0
                    try clear c18
                    try clear c18b0
                    try clear c19
                    try clear c19b0
                    try clear c20
                    try clear c20b0
                    try clear c21
                    try clear c21b0
                    try clear c22
                    try clear c22b0
                    try clear c24
                    try clear c24b0
                    try clear c25
                    try clear c25b0
                    try clear c26
                    try clear c26b0
                    try clear c27
                    try clear c27b0
                    try clear c28
                    try clear c28b0
                    try clear p29
                    try clear q29
                    try clear hx29
                    try clear hf29
                    try clear c32
                    try clear c32b0
                    try clear c33
                    try clear c33b0
                    try clear p34
                    try clear q34
                    try clear hx34
                    try clear hf34
                    try clear c38
                    try clear c38b0
                    try clear hx29_0
                    try clear hx34_0
                    try clear hx431_0
                    try clear hx432_0
                    try clear hx433_0
                    try clear hx434_0
                    try clear hx435_0
                    try clear p2
                    try clear p29
                    try clear p3
                    try clear p34
                    try clear p4
                    try clear p431
                    try clear p432
                    try clear p433
                    try clear p434
                    try clear p435
                    try clear p6
                    try clear q2
                    try clear q29
                    try clear q3
                    try clear q34
                    try clear q4
                    try clear q431
                    try clear q432
                    try clear q433
                    try clear q434
                    try clear q435
                    obtain ⟨x16_3, rfl, HA, HK3, HO_7, HO_9, HO_15, HB⟩ := hrel
                    cases gk with
                    | zero => exact absurd HA.out (by simp [lambrequinlaw10_GraphParts.l3])
                    | succ k3 =>
                      have H := HA.out
                      clear HA
                      simp only [lambrequinlaw10_GraphParts.l3] at H
                      by_cases c41 : x16_3 < t421
                      · rw [if_pos c41] at H
                        have c41b0 : decide (x16_3 < t421) = true := decide_eq_true c41
                        clear c41
                        replace H := Option.bind_eq_some_iff.mp H
                        obtain ⟨t441, A420, H⟩ := H
                        replace H : (if (t438.length : Int) = t421 then (if (t441.length : Int) = t421 then (if 0 ≤ x14_2 then (if x14_2 < (x9_1.length : Int) then (if 0 ≤ x16_3 then (if x16_3 < (x9_1.length : Int) then (if x16_3 < (t438.length : Int) then (if rdOf false t438 x16_3 = true then (if x14_2 < (t441.length : Int) then (if (((rd x9_1 x14_2) == (rd x9_1 x16_3)) != (rdOf false t441 x14_2)) = true then (some false) else (if (rd x9_1 x16_3) > (rd x9_1 x14_2) then (some false) else (lambrequinlaw10_GraphParts.l3 k3 t420 t421 t422 x9_1 x10_1 x14_2 t438 (wrap64 (x16_3 + 1))))) else (none)) else (if (((rd x9_1 x14_2) == (rd x9_1 x16_3)) != false) = true then (some false) else (lambrequinlaw10_GraphParts.l3 k3 t420 t421 t422 x9_1 x10_1 x14_2 t438 (wrap64 (x16_3 + 1))))) else (none)) else (none)) else (none)) else (none)) else (none)) else (some false)) else (some false)) = some r := H
                        have A42 := Aside0.mk A420
                        clear A420
                        by_cases c43 : (t438.length : Int) = t421
                        · rw [if_pos c43] at H
                          have c43b0 : ((t438.length : Int) == t421) = true := beq_iff_eq.mpr c43
                          have c43b1 : ((t438.length : Int) != t421) = false := bne_eq_false_iff_eq.mpr c43
                          clear c43
                          by_cases c44 : (t441.length : Int) = t421
                          · rw [if_pos c44] at H
                            have c44b0 : ((t441.length : Int) == t421) = true := beq_iff_eq.mpr c44
                            have c44b1 : ((t441.length : Int) != t421) = false := bne_eq_false_iff_eq.mpr c44
                            clear c44
                            by_cases c45 : 0 ≤ x14_2
                            · rw [if_pos c45] at H
                              have c45b0 : decide (0 ≤ x14_2) = true := decide_eq_true c45
                              clear c45
                              by_cases c46 : x14_2 < (x9_1.length : Int)
                              · rw [if_pos c46] at H
                                have c46b0 : decide (x14_2 < (x9_1.length : Int)) = true := decide_eq_true c46
                                clear c46
                                by_cases c47 : 0 ≤ x16_3
                                · rw [if_pos c47] at H
                                  have c47b0 : decide (0 ≤ x16_3) = true := decide_eq_true c47
                                  clear c47
                                  by_cases c48 : x16_3 < (x9_1.length : Int)
                                  · rw [if_pos c48] at H
                                    have c48b0 : decide (x16_3 < (x9_1.length : Int)) = true := decide_eq_true c48
                                    clear c48
                                    by_cases c49 : x16_3 < (t438.length : Int)
                                    · rw [if_pos c49] at H
                                      have c49b0 : decide (x16_3 < (t438.length : Int)) = true := decide_eq_true c49
                                      clear c49
                                      obtain ⟨bq50, hbq50⟩ : ∃ b_ : Bool, b_ = (rdOf false t438 x16_3) := ⟨_, rfl⟩
                                      replace H : (if bq50 = true then (if x14_2 < (t441.length : Int) then (if (((rd x9_1 x14_2) == (rd x9_1 x16_3)) != (rdOf false t441 x14_2)) = true then (some false) else (if (rd x9_1 x16_3) > (rd x9_1 x14_2) then (some false) else (lambrequinlaw10_GraphParts.l3 k3 t420 t421 t422 x9_1 x10_1 x14_2 t438 (wrap64 (x16_3 + 1))))) else (none)) else (if (((rd x9_1 x14_2) == (rd x9_1 x16_3)) != false) = true then (some false) else (lambrequinlaw10_GraphParts.l3 k3 t420 t421 t422 x9_1 x10_1 x14_2 t438 (wrap64 (x16_3 + 1))))) = some r := by rw [← hbq50] at H; exact H
                                      have Nbq50 := Aside0.mk hbq50
                                      clear hbq50
                                      by_cases c51 : bq50 = true
                                      · subst c51
                                        have H1 : (if x14_2 < (t441.length : Int) then (if (((rd x9_1 x14_2) == (rd x9_1 x16_3)) != (rdOf false t441 x14_2)) = true then (some false) else (if (rd x9_1 x16_3) > (rd x9_1 x14_2) then (some false) else (lambrequinlaw10_GraphParts.l3 k3 t420 t421 t422 x9_1 x10_1 x14_2 t438 (wrap64 (x16_3 + 1))))) else (none)) = some r := by rw [if_pos rfl] at H; exact H
                                        clear H
                                        have H := H1
                                        clear H1
                                        by_cases c52 : x14_2 < (t441.length : Int)
                                        · rw [if_pos c52] at H
                                          have c52b0 : decide (x14_2 < (t441.length : Int)) = true := decide_eq_true c52
                                          clear c52
                                          by_cases c53 : (((rd x9_1 x14_2) == (rd x9_1 x16_3)) != (rdOf false t441 x14_2)) = true
                                          · rw [if_pos c53] at H
                                            have c53b0 : (((rd x9_1 x14_2) == (rd x9_1 x16_3)) != (rdOf false t441 x14_2)) = true := c53
                                            (try (have c53b1 : decide (((rd x9_1 x14_2) == (rd x9_1 x16_3)) = (rdOf false t441 x14_2)) = false := by simpa using c53))
                                            (try (have c53b2 : (((rd x9_1 x14_2) == (rd x9_1 x16_3)) == (rdOf false t441 x14_2)) = false := by simpa using c53))
                                            (try (have c53b3 : ¬ (((rd x9_1 x14_2) == (rd x9_1 x16_3)) = (rdOf false t441 x14_2)) := by simpa using c53))
                                            clear c53
                                            obtain rfl := Option.some.inj H
                                            go_wp2_with (first | (go_at_call 22; (with_reducible refine (graph_Reach.calls k3 t421 _ _ t422 x16_3 t441 _ ?side1 ?side2 A42.out).mono ?_); (case side1 => repeat (first | exact (Kd.R_reads' HO_7.out).2.2 | (with_reducible refine Kd.C_alloc ?_ _) | (with_reducible refine Kd.C_drewN ?_ _) | (with_reducible refine Kd.C_drew ?_))); (case side2 => exact (Kd.R_reads' HO_7.out).2.1); rintro e w54 ⟨v442, rfl, ho0, hb⟩; have n0_ := Aside0.mk (Kd.R_below (by (with_reducible repeat (first | apply Kd.R_alloc | apply Kd.R_drewN | apply Kd.R_drew)); exact HO_7.out) hb); have n1_ := Aside0.mk (Kd.R_below (by (with_reducible repeat (first | apply Kd.R_alloc | apply Kd.R_drewN | apply Kd.R_drew)); exact HO_9.out) hb); have n2_ := Aside0.mk (Kd.R_elder' (by (with_reducible repeat (first | apply Kd.R_alloc | apply Kd.R_drewN | apply Kd.R_drew)); exact HO_15.out) (Kd.R_base ho0) hb); have n3_ := Aside0.mk (Kd.R_lower (Kd.R_new' ho0 (Kd.R_lt (by (with_reducible repeat (first | apply Kd.R_alloc | apply Kd.R_drewN | apply Kd.R_drew)); exact HO_15.out))) (below_size (by repeat (first | (with_reducible first | exact HB.out | apply below_alloc | apply pw_below_drewN | apply below_drew1) | exact HB.out)))); have n4_ := Aside0.mk (below_step (by repeat (first | (with_reducible first | exact HB.out | apply below_alloc | apply pw_below_drewN | apply below_drew1) | exact HB.out)) hb); clear HO_7; clear HO_9; clear HO_15; clear HB; have HO_7 := n0_; have HO_9 := n1_; have HO_15 := n2_; have HO443 := n3_; have HB := n4_; clear n0_ n1_ n2_ n3_ n4_; (try clear hb); (try clear hb2); (try clear hk); (try clear hi); (try clear ho0); obtain ⟨Ao55, co55, eo55⟩ := Kd.R_slice HO_15.out; subst eo55; obtain ⟨Ao56, co56, eo56⟩ := Kd.R_slice HO443.out; subst eo56; obtain ⟨Ao57, co57, eo57⟩ := Kd.R_slice HO_9.out; subst eo57; have p444 : 0 ≤ (x14_2 : Int) := of_decide_eq_true (by first | (with_reducible assumption) | assumption); have q444 : x14_2 < (x9_1.length : Int) := of_decide_eq_true (by first | (with_reducible assumption) | assumption); obtain ⟨ad444, e444, hx444_0⟩ := Kd.at_int (Kd.R_reads' HO_9.out).2.2 x14_2 p444 q444; cases e444; replace p444 := eq_true p444; replace q444 := eq_true q444; have p445 : 0 ≤ (x16_3 : Int) := of_decide_eq_true (by first | (with_reducible assumption) | assumption); have q445 : x16_3 < (x9_1.length : Int) := of_decide_eq_true (by first | (with_reducible assumption) | assumption); obtain ⟨ad445, e445, hx445_0⟩ := Kd.at_int (Kd.R_reads' HO_9.out).2.2 x16_3 p445 q445; obtain rfl : ad444 = ad445 := (by injection e445); replace p445 := eq_true p445; replace q445 := eq_true q445; have p446 : 0 ≤ (x16_3 : Int) := of_decide_eq_true (by first | (with_reducible assumption) | assumption); have q446 : x16_3 < (t438.length : Int) := of_decide_eq_true (by first | (with_reducible assumption) | assumption); obtain ⟨ad446, e446, hx446_0⟩ := Kd.at_bool (Kd.R_reads' HO_15.out).2.2 x16_3 p446 q446; (try rw [← Nbq50.out] at hx446_0); cases e446; replace p446 := eq_true p446; replace q446 := eq_true q446; have p447 : 0 ≤ (x14_2 : Int) := of_decide_eq_true (by first | (with_reducible assumption) | assumption); have q447 : x14_2 < (t441.length : Int) := of_decide_eq_true (by first | (with_reducible assumption) | assumption); obtain ⟨ad447, e447, hx447_0⟩ := Kd.at_bool (Kd.R_reads' HO443.out).2.2 x14_2 p447 q447; (try rw [← Nbq50.out] at hx447_0); cases e447; replace p447 := eq_true p447; replace q447 := eq_true q447))
                                            repeat (go_quiet (first | (go_at_call 22; (with_reducible refine (graph_Reach.calls k3 t421 _ _ t422 x16_3 t441 _ ?side1 ?side2 A42.out).mono ?_); (case side1 => repeat (first | exact (Kd.R_reads' HO_7.out).2.2 | (with_reducible refine Kd.C_alloc ?_ _) | (with_reducible refine Kd.C_drewN ?_ _) | (with_reducible refine Kd.C_drew ?_))); (case side2 => exact (Kd.R_reads' HO_7.out).2.1); rintro e w54 ⟨v442, rfl, ho0, hb⟩; have n0_ := Aside0.mk (Kd.R_below (by (with_reducible repeat (first | apply Kd.R_alloc | apply Kd.R_drewN | apply Kd.R_drew)); exact HO_7.out) hb); have n1_ := Aside0.mk (Kd.R_below (by (with_reducible repeat (first | apply Kd.R_alloc | apply Kd.R_drewN | apply Kd.R_drew)); exact HO_9.out) hb); have n2_ := Aside0.mk (Kd.R_elder' (by (with_reducible repeat (first | apply Kd.R_alloc | apply Kd.R_drewN | apply Kd.R_drew)); exact HO_15.out) (Kd.R_base ho0) hb); have n3_ := Aside0.mk (Kd.R_lower (Kd.R_new' ho0 (Kd.R_lt (by (with_reducible repeat (first | apply Kd.R_alloc | apply Kd.R_drewN | apply Kd.R_drew)); exact HO_15.out))) (below_size (by repeat (first | (with_reducible first | exact HB.out | apply below_alloc | apply pw_below_drewN | apply below_drew1) | exact HB.out)))); have n4_ := Aside0.mk (below_step (by repeat (first | (with_reducible first | exact HB.out | apply below_alloc | apply pw_below_drewN | apply below_drew1) | exact HB.out)) hb); clear HO_7; clear HO_9; clear HO_15; clear HB; have HO_7 := n0_; have HO_9 := n1_; have HO_15 := n2_; have HO443 := n3_; have HB := n4_; clear n0_ n1_ n2_ n3_ n4_; (try clear hb); (try clear hb2); (try clear hk); (try clear hi); (try clear ho0); obtain ⟨Ao55, co55, eo55⟩ := Kd.R_slice HO_15.out; subst eo55; obtain ⟨Ao56, co56, eo56⟩ := Kd.R_slice HO443.out; subst eo56; obtain ⟨Ao57, co57, eo57⟩ := Kd.R_slice HO_9.out; subst eo57; have p444 : 0 ≤ (x14_2 : Int) := of_decide_eq_true (by first | (with_reducible assumption) | assumption); have q444 : x14_2 < (x9_1.length : Int) := of_decide_eq_true (by first | (with_reducible assumption) | assumption); obtain ⟨ad444, e444, hx444_0⟩ := Kd.at_int (Kd.R_reads' HO_9.out).2.2 x14_2 p444 q444; cases e444; replace p444 := eq_true p444; replace q444 := eq_true q444; have p445 : 0 ≤ (x16_3 : Int) := of_decide_eq_true (by first | (with_reducible assumption) | assumption); have q445 : x16_3 < (x9_1.length : Int) := of_decide_eq_true (by first | (with_reducible assumption) | assumption); obtain ⟨ad445, e445, hx445_0⟩ := Kd.at_int (Kd.R_reads' HO_9.out).2.2 x16_3 p445 q445; obtain rfl : ad444 = ad445 := (by injection e445); replace p445 := eq_true p445; replace q445 := eq_true q445; have p446 : 0 ≤ (x16_3 : Int) := of_decide_eq_true (by first | (with_reducible assumption) | assumption); have q446 : x16_3 < (t438.length : Int) := of_decide_eq_true (by first | (with_reducible assumption) | assumption); obtain ⟨ad446, e446, hx446_0⟩ := Kd.at_bool (Kd.R_reads' HO_15.out).2.2 x16_3 p446 q446; (try rw [← Nbq50.out] at hx446_0); cases e446; replace p446 := eq_true p446; replace q446 := eq_true q446; have p447 : 0 ≤ (x14_2 : Int) := of_decide_eq_true (by first | (with_reducible assumption) | assumption); have q447 : x14_2 < (t441.length : Int) := of_decide_eq_true (by first | (with_reducible assumption) | assumption); obtain ⟨ad447, e447, hx447_0⟩ := Kd.at_bool (Kd.R_reads' HO443.out).2.2 x14_2 p447 q447; (try rw [← Nbq50.out] at hx447_0); cases e447; replace p447 := eq_true p447; replace q447 := eq_true q447)); try go_wp2_with (first | (go_at_call 22; (with_reducible refine (graph_Reach.calls k3 t421 _ _ t422 x16_3 t441 _ ?side1 ?side2 A42.out).mono ?_); (case side1 => repeat (first | exact (Kd.R_reads' HO_7.out).2.2 | (with_reducible refine Kd.C_alloc ?_ _) | (with_reducible refine Kd.C_drewN ?_ _) | (with_reducible refine Kd.C_drew ?_))); (case side2 => exact (Kd.R_reads' HO_7.out).2.1); rintro e w54 ⟨v442, rfl, ho0, hb⟩; have n0_ := Aside0.mk (Kd.R_below (by (with_reducible repeat (first | apply Kd.R_alloc | apply Kd.R_drewN | apply Kd.R_drew)); exact HO_7.out) hb); have n1_ := Aside0.mk (Kd.R_below (by (with_reducible repeat (first | apply Kd.R_alloc | apply Kd.R_drewN | apply Kd.R_drew)); exact HO_9.out) hb); have n2_ := Aside0.mk (Kd.R_elder' (by (with_reducible repeat (first | apply Kd.R_alloc | apply Kd.R_drewN | apply Kd.R_drew)); exact HO_15.out) (Kd.R_base ho0) hb); have n3_ := Aside0.mk (Kd.R_lower (Kd.R_new' ho0 (Kd.R_lt (by (with_reducible repeat (first | apply Kd.R_alloc | apply Kd.R_drewN | apply Kd.R_drew)); exact HO_15.out))) (below_size (by repeat (first | (with_reducible first | exact HB.out | apply below_alloc | apply pw_below_drewN | apply below_drew1) | exact HB.out)))); have n4_ := Aside0.mk (below_step (by repeat (first | (with_reducible first | exact HB.out | apply below_alloc | apply pw_below_drewN | apply below_drew1) | exact HB.out)) hb); clear HO_7; clear HO_9; clear HO_15; clear HB; have HO_7 := n0_; have HO_9 := n1_; have HO_15 := n2_; have HO443 := n3_; have HB := n4_; clear n0_ n1_ n2_ n3_ n4_; (try clear hb); (try clear hb2); (try clear hk); (try clear hi); (try clear ho0); obtain ⟨Ao55, co55, eo55⟩ := Kd.R_slice HO_15.out; subst eo55; obtain ⟨Ao56, co56, eo56⟩ := Kd.R_slice HO443.out; subst eo56; obtain ⟨Ao57, co57, eo57⟩ := Kd.R_slice HO_9.out; subst eo57; have p444 : 0 ≤ (x14_2 : Int) := of_decide_eq_true (by first | (with_reducible assumption) | assumption); have q444 : x14_2 < (x9_1.length : Int) := of_decide_eq_true (by first | (with_reducible assumption) | assumption); obtain ⟨ad444, e444, hx444_0⟩ := Kd.at_int (Kd.R_reads' HO_9.out).2.2 x14_2 p444 q444; cases e444; replace p444 := eq_true p444; replace q444 := eq_true q444; have p445 : 0 ≤ (x16_3 : Int) := of_decide_eq_true (by first | (with_reducible assumption) | assumption); have q445 : x16_3 < (x9_1.length : Int) := of_decide_eq_true (by first | (with_reducible assumption) | assumption); obtain ⟨ad445, e445, hx445_0⟩ := Kd.at_int (Kd.R_reads' HO_9.out).2.2 x16_3 p445 q445; obtain rfl : ad444 = ad445 := (by injection e445); replace p445 := eq_true p445; replace q445 := eq_true q445; have p446 : 0 ≤ (x16_3 : Int) := of_decide_eq_true (by first | (with_reducible assumption) | assumption); have q446 : x16_3 < (t438.length : Int) := of_decide_eq_true (by first | (with_reducible assumption) | assumption); obtain ⟨ad446, e446, hx446_0⟩ := Kd.at_bool (Kd.R_reads' HO_15.out).2.2 x16_3 p446 q446; (try rw [← Nbq50.out] at hx446_0); cases e446; replace p446 := eq_true p446; replace q446 := eq_true q446; have p447 : 0 ≤ (x14_2 : Int) := of_decide_eq_true (by first | (with_reducible assumption) | assumption); have q447 : x14_2 < (t441.length : Int) := of_decide_eq_true (by first | (with_reducible assumption) | assumption); obtain ⟨ad447, e447, hx447_0⟩ := Kd.at_bool (Kd.R_reads' HO443.out).2.2 x14_2 p447 q447; (try rw [← Nbq50.out] at hx447_0); cases e447; replace p447 := eq_true p447; replace q447 := eq_true q447)))
                                            go_ret
                                            exact ⟨by first | rfl | (simp [errW_none, errW_some] <;> rfl) | (simp [*, errW_none, errW_some] <;> rfl), by repeat (first | (with_reducible first | exact HB.out | apply below_alloc | apply pw_below_drewN | apply below_drew1) | exact HB.out)⟩
                                          · rw [if_neg c53] at H
                                            have c53b0 : (((rd x9_1 x14_2) == (rd x9_1 x16_3)) != (rdOf false t441 x14_2)) = false := by simpa using c53
                                            (try (have c53b1 : decide (((rd x9_1 x14_2) == (rd x9_1 x16_3)) = (rdOf false t441 x14_2)) = true := by simpa using c53))
                                            (try (have c53b2 : (((rd x9_1 x14_2) == (rd x9_1 x16_3)) == (rdOf false t441 x14_2)) = true := by simpa using c53))
                                            clear c53
                                            by_cases c58 : (rd x9_1 x16_3) > (rd x9_1 x14_2)
                                            · rw [if_pos c58] at H
                                              have c58b0 : decide ((rd x9_1 x14_2) < (rd x9_1 x16_3)) = true := decide_eq_true c58
                                              clear c58
                                              obtain rfl := Option.some.inj H
                                              go_wp2_with (first | (go_at_call 22; (with_reducible refine (graph_Reach.calls k3 t421 _ _ t422 x16_3 t441 _ ?side1 ?side2 A42.out).mono ?_); (case side1 => repeat (first | exact (Kd.R_reads' HO_7.out).2.2 | (with_reducible refine Kd.C_alloc ?_ _) | (with_reducible refine Kd.C_drewN ?_ _) | (with_reducible refine Kd.C_drew ?_))); (case side2 => exact (Kd.R_reads' HO_7.out).2.1); rintro e w59 ⟨v442, rfl, ho0, hb⟩; have n0_ := Aside0.mk (Kd.R_below (by (with_reducible repeat (first | apply Kd.R_alloc | apply Kd.R_drewN | apply Kd.R_drew)); exact HO_7.out) hb); have n1_ := Aside0.mk (Kd.R_below (by (with_reducible repeat (first | apply Kd.R_alloc | apply Kd.R_drewN | apply Kd.R_drew)); exact HO_9.out) hb); have n2_ := Aside0.mk (Kd.R_elder' (by (with_reducible repeat (first | apply Kd.R_alloc | apply Kd.R_drewN | apply Kd.R_drew)); exact HO_15.out) (Kd.R_base ho0) hb); have n3_ := Aside0.mk (Kd.R_lower (Kd.R_new' ho0 (Kd.R_lt (by (with_reducible repeat (first | apply Kd.R_alloc | apply Kd.R_drewN | apply Kd.R_drew)); exact HO_15.out))) (below_size (by repeat (first | (with_reducible first | exact HB.out | apply below_alloc | apply pw_below_drewN | apply below_drew1) | exact HB.out)))); have n4_ := Aside0.mk (below_step (by repeat (first | (with_reducible first | exact HB.out | apply below_alloc | apply pw_below_drewN | apply below_drew1) | exact HB.out)) hb); clear HO_7; clear HO_9; clear HO_15; clear HB; have HO_7 := n0_; have HO_9 := n1_; have HO_15 := n2_; have HO443 := n3_; have HB := n4_; clear n0_ n1_ n2_ n3_ n4_; (try clear hb); (try clear hb2); (try clear hk); (try clear hi); (try clear ho0); obtain ⟨Ao60, co60, eo60⟩ := Kd.R_slice HO_15.out; subst eo60; obtain ⟨Ao61, co61, eo61⟩ := Kd.R_slice HO443.out; subst eo61; obtain ⟨Ao62, co62, eo62⟩ := Kd.R_slice HO_9.out; subst eo62; have p444 : 0 ≤ (x14_2 : Int) := of_decide_eq_true (by first | (with_reducible assumption) | assumption); have q444 : x14_2 < (x9_1.length : Int) := of_decide_eq_true (by first | (with_reducible assumption) | assumption); obtain ⟨ad444, e444, hx444_0⟩ := Kd.at_int (Kd.R_reads' HO_9.out).2.2 x14_2 p444 q444; cases e444; replace p444 := eq_true p444; replace q444 := eq_true q444; have p445 : 0 ≤ (x16_3 : Int) := of_decide_eq_true (by first | (with_reducible assumption) | assumption); have q445 : x16_3 < (x9_1.length : Int) := of_decide_eq_true (by first | (with_reducible assumption) | assumption); obtain ⟨ad445, e445, hx445_0⟩ := Kd.at_int (Kd.R_reads' HO_9.out).2.2 x16_3 p445 q445; obtain rfl : ad444 = ad445 := (by injection e445); replace p445 := eq_true p445; replace q445 := eq_true q445; have p446 : 0 ≤ (x16_3 : Int) := of_decide_eq_true (by first | (with_reducible assumption) | assumption); have q446 : x16_3 < (t438.length : Int) := of_decide_eq_true (by first | (with_reducible assumption) | assumption); obtain ⟨ad446, e446, hx446_0⟩ := Kd.at_bool (Kd.R_reads' HO_15.out).2.2 x16_3 p446 q446; (try rw [← Nbq50.out] at hx446_0); cases e446; replace p446 := eq_true p446; replace q446 := eq_true q446; have p447 : 0 ≤ (x14_2 : Int) := of_decide_eq_true (by first | (with_reducible assumption) | assumption); have q447 : x14_2 < (t441.length : Int) := of_decide_eq_true (by first | (with_reducible assumption) | assumption); obtain ⟨ad447, e447, hx447_0⟩ := Kd.at_bool (Kd.R_reads' HO443.out).2.2 x14_2 p447 q447; (try rw [← Nbq50.out] at hx447_0); cases e447; replace p447 := eq_true p447; replace q447 := eq_true q447; have p448 : 0 ≤ (x16_3 : Int) := of_decide_eq_true (by first | (with_reducible assumption) | assumption); have q448 : x16_3 < (t438.length : Int) := of_decide_eq_true (by first | (with_reducible assumption) | assumption); obtain ⟨ad448, e448, hx448_0⟩ := Kd.at_bool (Kd.R_reads' HO_15.out).2.2 x16_3 p448 q448; (try rw [← Nbq50.out] at hx448_0); obtain rfl : ad446 = ad448 := (by injection e448); replace p448 := eq_true p448; replace q448 := eq_true q448; have p449 : 0 ≤ (x16_3 : Int) := of_decide_eq_true (by first | (with_reducible assumption) | assumption); have q449 : x16_3 < (x9_1.length : Int) := of_decide_eq_true (by first | (with_reducible assumption) | assumption); obtain ⟨ad449, e449, hx449_0⟩ := Kd.at_int (Kd.R_reads' HO_9.out).2.2 x16_3 p449 q449; obtain rfl : ad444 = ad449 := (by injection e449); replace p449 := eq_true p449; replace q449 := eq_true q449; have p450 : 0 ≤ (x14_2 : Int) := of_decide_eq_true (by first | (with_reducible assumption) | assumption); have q450 : x14_2 < (x9_1.length : Int) := of_decide_eq_true (by first | (with_reducible assumption) | assumption); obtain ⟨ad450, e450, hx450_0⟩ := Kd.at_int (Kd.R_reads' HO_9.out).2.2 x14_2 p450 q450; obtain rfl : ad444 = ad450 := (by injection e450); replace p450 := eq_true p450; replace q450 := eq_true q450))
                                              repeat (go_quiet (first | (go_at_call 22; (with_reducible refine (graph_Reach.calls k3 t421 _ _ t422 x16_3 t441 _ ?side1 ?side2 A42.out).mono ?_); (case side1 => repeat (first | exact (Kd.R_reads' HO_7.out).2.2 | (with_reducible refine Kd.C_alloc ?_ _) | (with_reducible refine Kd.C_drewN ?_ _) | (with_reducible refine Kd.C_drew ?_))); (case side2 => exact (Kd.R_reads' HO_7.out).2.1); rintro e w59 ⟨v442, rfl, ho0, hb⟩; have n0_ := Aside0.mk (Kd.R_below (by (with_reducible repeat (first | apply Kd.R_alloc | apply Kd.R_drewN | apply Kd.R_drew)); exact HO_7.out) hb); have n1_ := Aside0.mk (Kd.R_below (by (with_reducible repeat (first | apply Kd.R_alloc | apply Kd.R_drewN | apply Kd.R_drew)); exact HO_9.out) hb); have n2_ := Aside0.mk (Kd.R_elder' (by (with_reducible repeat (first | apply Kd.R_alloc | apply Kd.R_drewN | apply Kd.R_drew)); exact HO_15.out) (Kd.R_base ho0) hb); have n3_ := Aside0.mk (Kd.R_lower (Kd.R_new' ho0 (Kd.R_lt (by (with_reducible repeat (first | apply Kd.R_alloc | apply Kd.R_drewN | apply Kd.R_drew)); exact HO_15.out))) (below_size (by repeat (first | (with_reducible first | exact HB.out | apply below_alloc | apply pw_below_drewN | apply below_drew1) | exact HB.out)))); have n4_ := Aside0.mk (below_step (by repeat (first | (with_reducible first | exact HB.out | apply below_alloc | apply pw_below_drewN | apply below_drew1) | exact HB.out)) hb); clear HO_7; clear HO_9; clear HO_15; clear HB; have HO_7 := n0_; have HO_9 := n1_; have HO_15 := n2_; have HO443 := n3_; have HB := n4_; clear n0_ n1_ n2_ n3_ n4_; (try clear hb); (try clear hb2); (try clear hk); (try clear hi); (try clear ho0); obtain ⟨Ao60, co60, eo60⟩ := Kd.R_slice HO_15.out; subst eo60; obtain ⟨Ao61, co61, eo61⟩ := Kd.R_slice HO443.out; subst eo61; obtain ⟨Ao62, co62, eo62⟩ := Kd.R_slice HO_9.out; subst eo62; have p444 : 0 ≤ (x14_2 : Int) := of_decide_eq_true (by first | (with_reducible assumption) | assumption); have q444 : x14_2 < (x9_1.length : Int) := of_decide_eq_true (by first | (with_reducible assumption) | assumption); obtain ⟨ad444, e444, hx444_0⟩ := Kd.at_int (Kd.R_reads' HO_9.out).2.2 x14_2 p444 q444; cases e444; replace p444 := eq_true p444; replace q444 := eq_true q444; have p445 : 0 ≤ (x16_3 : Int) := of_decide_eq_true (by first | (with_reducible assumption) | assumption); have q445 : x16_3 < (x9_1.length : Int) := of_decide_eq_true (by first | (with_reducible assumption) | assumption); obtain ⟨ad445, e445, hx445_0⟩ := Kd.at_int (Kd.R_reads' HO_9.out).2.2 x16_3 p445 q445; obtain rfl : ad444 = ad445 := (by injection e445); replace p445 := eq_true p445; replace q445 := eq_true q445; have p446 : 0 ≤ (x16_3 : Int) := of_decide_eq_true (by first | (with_reducible assumption) | assumption); have q446 : x16_3 < (t438.length : Int) := of_decide_eq_true (by first | (with_reducible assumption) | assumption); obtain ⟨ad446, e446, hx446_0⟩ := Kd.at_bool (Kd.R_reads' HO_15.out).2.2 x16_3 p446 q446; (try rw [← Nbq50.out] at hx446_0); cases e446; replace p446 := eq_true p446; replace q446 := eq_true q446; have p447 : 0 ≤ (x14_2 : Int) := of_decide_eq_true (by first | (with_reducible assumption) | assumption); have q447 : x14_2 < (t441.length : Int) := of_decide_eq_true (by first | (with_reducible assumption) | assumption); obtain ⟨ad447, e447, hx447_0⟩ := Kd.at_bool (Kd.R_reads' HO443.out).2.2 x14_2 p447 q447; (try rw [← Nbq50.out] at hx447_0); cases e447; replace p447 := eq_true p447; replace q447 := eq_true q447; have p448 : 0 ≤ (x16_3 : Int) := of_decide_eq_true (by first | (with_reducible assumption) | assumption); have q448 : x16_3 < (t438.length : Int) := of_decide_eq_true (by first | (with_reducible assumption) | assumption); obtain ⟨ad448, e448, hx448_0⟩ := Kd.at_bool (Kd.R_reads' HO_15.out).2.2 x16_3 p448 q448; (try rw [← Nbq50.out] at hx448_0); obtain rfl : ad446 = ad448 := (by injection e448); replace p448 := eq_true p448; replace q448 := eq_true q448; have p449 : 0 ≤ (x16_3 : Int) := of_decide_eq_true (by first | (with_reducible assumption) | assumption); have q449 : x16_3 < (x9_1.length : Int) := of_decide_eq_true (by first | (with_reducible assumption) | assumption); obtain ⟨ad449, e449, hx449_0⟩ := Kd.at_int (Kd.R_reads' HO_9.out).2.2 x16_3 p449 q449; obtain rfl : ad444 = ad449 := (by injection e449); replace p449 := eq_true p449; replace q449 := eq_true q449; have p450 : 0 ≤ (x14_2 : Int) := of_decide_eq_true (by first | (with_reducible assumption) | assumption); have q450 : x14_2 < (x9_1.length : Int) := of_decide_eq_true (by first | (with_reducible assumption) | assumption); obtain ⟨ad450, e450, hx450_0⟩ := Kd.at_int (Kd.R_reads' HO_9.out).2.2 x14_2 p450 q450; obtain rfl : ad444 = ad450 := (by injection e450); replace p450 := eq_true p450; replace q450 := eq_true q450)); try go_wp2_with (first | (go_at_call 22; (with_reducible refine (graph_Reach.calls k3 t421 _ _ t422 x16_3 t441 _ ?side1 ?side2 A42.out).mono ?_); (case side1 => repeat (first | exact (Kd.R_reads' HO_7.out).2.2 | (with_reducible refine Kd.C_alloc ?_ _) | (with_reducible refine Kd.C_drewN ?_ _) | (with_reducible refine Kd.C_drew ?_))); (case side2 => exact (Kd.R_reads' HO_7.out).2.1); rintro e w59 ⟨v442, rfl, ho0, hb⟩; have n0_ := Aside0.mk (Kd.R_below (by (with_reducible repeat (first | apply Kd.R_alloc | apply Kd.R_drewN | apply Kd.R_drew)); exact HO_7.out) hb); have n1_ := Aside0.mk (Kd.R_below (by (with_reducible repeat (first | apply Kd.R_alloc | apply Kd.R_drewN | apply Kd.R_drew)); exact HO_9.out) hb); have n2_ := Aside0.mk (Kd.R_elder' (by (with_reducible repeat (first | apply Kd.R_alloc | apply Kd.R_drewN | apply Kd.R_drew)); exact HO_15.out) (Kd.R_base ho0) hb); have n3_ := Aside0.mk (Kd.R_lower (Kd.R_new' ho0 (Kd.R_lt (by (with_reducible repeat (first | apply Kd.R_alloc | apply Kd.R_drewN | apply Kd.R_drew)); exact HO_15.out))) (below_size (by repeat (first | (with_reducible first | exact HB.out | apply below_alloc | apply pw_below_drewN | apply below_drew1) | exact HB.out)))); have n4_ := Aside0.mk (below_step (by repeat (first | (with_reducible first | exact HB.out | apply below_alloc | apply pw_below_drewN | apply below_drew1) | exact HB.out)) hb); clear HO_7; clear HO_9; clear HO_15; clear HB; have HO_7 := n0_; have HO_9 := n1_; have HO_15 := n2_; have HO443 := n3_; have HB := n4_; clear n0_ n1_ n2_ n3_ n4_; (try clear hb); (try clear hb2); (try clear hk); (try clear hi); (try clear ho0); obtain ⟨Ao60, co60, eo60⟩ := Kd.R_slice HO_15.out; subst eo60; obtain ⟨Ao61, co61, eo61⟩ := Kd.R_slice HO443.out; subst eo61; obtain ⟨Ao62, co62, eo62⟩ := Kd.R_slice HO_9.out; subst eo62; have p444 : 0 ≤ (x14_2 : Int) := of_decide_eq_true (by first | (with_reducible assumption) | assumption); have q444 : x14_2 < (x9_1.length : Int) := of_decide_eq_true (by first | (with_reducible assumption) | assumption); obtain ⟨ad444, e444, hx444_0⟩ := Kd.at_int (Kd.R_reads' HO_9.out).2.2 x14_2 p444 q444; cases e444; replace p444 := eq_true p444; replace q444 := eq_true q444; have p445 : 0 ≤ (x16_3 : Int) := of_decide_eq_true (by first | (with_reducible assumption) | assumption); have q445 : x16_3 < (x9_1.length : Int) := of_decide_eq_true (by first | (with_reducible assumption) | assumption); obtain ⟨ad445, e445, hx445_0⟩ := Kd.at_int (Kd.R_reads' HO_9.out).2.2 x16_3 p445 q445; obtain rfl : ad444 = ad445 := (by injection e445); replace p445 := eq_true p445; replace q445 := eq_true q445; have p446 : 0 ≤ (x16_3 : Int) := of_decide_eq_true (by first | (with_reducible assumption) | assumption); have q446 : x16_3 < (t438.length : Int) := of_decide_eq_true (by first | (with_reducible assumption) | assumption); obtain ⟨ad446, e446, hx446_0⟩ := Kd.at_bool (Kd.R_reads' HO_15.out).2.2 x16_3 p446 q446; (try rw [← Nbq50.out] at hx446_0); cases e446; replace p446 := eq_true p446; replace q446 := eq_true q446; have p447 : 0 ≤ (x14_2 : Int) := of_decide_eq_true (by first | (with_reducible assumption) | assumption); have q447 : x14_2 < (t441.length : Int) := of_decide_eq_true (by first | (with_reducible assumption) | assumption); obtain ⟨ad447, e447, hx447_0⟩ := Kd.at_bool (Kd.R_reads' HO443.out).2.2 x14_2 p447 q447; (try rw [← Nbq50.out] at hx447_0); cases e447; replace p447 := eq_true p447; replace q447 := eq_true q447; have p448 : 0 ≤ (x16_3 : Int) := of_decide_eq_true (by first | (with_reducible assumption) | assumption); have q448 : x16_3 < (t438.length : Int) := of_decide_eq_true (by first | (with_reducible assumption) | assumption); obtain ⟨ad448, e448, hx448_0⟩ := Kd.at_bool (Kd.R_reads' HO_15.out).2.2 x16_3 p448 q448; (try rw [← Nbq50.out] at hx448_0); obtain rfl : ad446 = ad448 := (by injection e448); replace p448 := eq_true p448; replace q448 := eq_true q448; have p449 : 0 ≤ (x16_3 : Int) := of_decide_eq_true (by first | (with_reducible assumption) | assumption); have q449 : x16_3 < (x9_1.length : Int) := of_decide_eq_true (by first | (with_reducible assumption) | assumption); obtain ⟨ad449, e449, hx449_0⟩ := Kd.at_int (Kd.R_reads' HO_9.out).2.2 x16_3 p449 q449; obtain rfl : ad444 = ad449 := (by injection e449); replace p449 := eq_true p449; replace q449 := eq_true q449; have p450 : 0 ≤ (x14_2 : Int) := of_decide_eq_true (by first | (with_reducible assumption) | assumption); have q450 : x14_2 < (x9_1.length : Int) := of_decide_eq_true (by first | (with_reducible assumption) | assumption); obtain ⟨ad450, e450, hx450_0⟩ := Kd.at_int (Kd.R_reads' HO_9.out).2.2 x14_2 p450 q450; obtain rfl : ad444 = ad450 := (by injection e450); replace p450 := eq_true p450; replace q450 := eq_true q450)))
                                              go_ret
                                              exact ⟨by first | rfl | (simp [errW_none, errW_some] <;> rfl) | (simp [*, errW_none, errW_some] <;> rfl), by repeat (first | (with_reducible first | exact HB.out | apply below_alloc | apply pw_below_drewN | apply below_drew1) | exact HB.out)⟩
                                            · rw [if_neg c58] at H
                                              have c58b0 : decide ((rd x9_1 x14_2) < (rd x9_1 x16_3)) = false := decide_eq_false c58
                                              clear c58
                                              have H' := Aside0.mk H
                                              clear H
                                              go_wp2_with (first | (go_at_call 22; (with_reducible refine (graph_Reach.calls k3 t421 _ _ t422 x16_3 t441 _ ?side1 ?side2 A42.out).mono ?_); (case side1 => repeat (first | exact (Kd.R_reads' HO_7.out).2.2 | (with_reducible refine Kd.C_alloc ?_ _) | (with_reducible refine Kd.C_drewN ?_ _) | (with_reducible refine Kd.C_drew ?_))); (case side2 => exact (Kd.R_reads' HO_7.out).2.1); rintro e w63 ⟨v442, rfl, ho0, hb⟩; have n0_ := Aside0.mk (Kd.R_below (by (with_reducible repeat (first | apply Kd.R_alloc | apply Kd.R_drewN | apply Kd.R_drew)); exact HO_7.out) hb); have n1_ := Aside0.mk (Kd.R_below (by (with_reducible repeat (first | apply Kd.R_alloc | apply Kd.R_drewN | apply Kd.R_drew)); exact HO_9.out) hb); have n2_ := Aside0.mk (Kd.R_elder' (by (with_reducible repeat (first | apply Kd.R_alloc | apply Kd.R_drewN | apply Kd.R_drew)); exact HO_15.out) (Kd.R_base ho0) hb); have n3_ := Aside0.mk (Kd.R_lower (Kd.R_new' ho0 (Kd.R_lt (by (with_reducible repeat (first | apply Kd.R_alloc | apply Kd.R_drewN | apply Kd.R_drew)); exact HO_15.out))) (below_size (by repeat (first | (with_reducible first | exact HB.out | apply below_alloc | apply pw_below_drewN | apply below_drew1) | exact HB.out)))); have n4_ := Aside0.mk (below_step (by repeat (first | (with_reducible first | exact HB.out | apply below_alloc | apply pw_below_drewN | apply below_drew1) | exact HB.out)) hb); clear HO_7; clear HO_9; clear HO_15; clear HB; have HO_7 := n0_; have HO_9 := n1_; have HO_15 := n2_; have HO443 := n3_; have HB := n4_; clear n0_ n1_ n2_ n3_ n4_; (try clear hb); (try clear hb2); (try clear hk); (try clear hi); (try clear ho0); obtain ⟨Ao64, co64, eo64⟩ := Kd.R_slice HO_15.out; subst eo64; obtain ⟨Ao65, co65, eo65⟩ := Kd.R_slice HO443.out; subst eo65; obtain ⟨Ao66, co66, eo66⟩ := Kd.R_slice HO_9.out; subst eo66; have p444 : 0 ≤ (x14_2 : Int) := of_decide_eq_true (by first | (with_reducible assumption) | assumption); have q444 : x14_2 < (x9_1.length : Int) := of_decide_eq_true (by first | (with_reducible assumption) | assumption); obtain ⟨ad444, e444, hx444_0⟩ := Kd.at_int (Kd.R_reads' HO_9.out).2.2 x14_2 p444 q444; cases e444; replace p444 := eq_true p444; replace q444 := eq_true q444; have p445 : 0 ≤ (x16_3 : Int) := of_decide_eq_true (by first | (with_reducible assumption) | assumption); have q445 : x16_3 < (x9_1.length : Int) := of_decide_eq_true (by first | (with_reducible assumption) | assumption); obtain ⟨ad445, e445, hx445_0⟩ := Kd.at_int (Kd.R_reads' HO_9.out).2.2 x16_3 p445 q445; obtain rfl : ad444 = ad445 := (by injection e445); replace p445 := eq_true p445; replace q445 := eq_true q445; have p446 : 0 ≤ (x16_3 : Int) := of_decide_eq_true (by first | (with_reducible assumption) | assumption); have q446 : x16_3 < (t438.length : Int) := of_decide_eq_true (by first | (with_reducible assumption) | assumption); obtain ⟨ad446, e446, hx446_0⟩ := Kd.at_bool (Kd.R_reads' HO_15.out).2.2 x16_3 p446 q446; (try rw [← Nbq50.out] at hx446_0); cases e446; replace p446 := eq_true p446; replace q446 := eq_true q446; have p447 : 0 ≤ (x14_2 : Int) := of_decide_eq_true (by first | (with_reducible assumption) | assumption); have q447 : x14_2 < (t441.length : Int) := of_decide_eq_true (by first | (with_reducible assumption) | assumption); obtain ⟨ad447, e447, hx447_0⟩ := Kd.at_bool (Kd.R_reads' HO443.out).2.2 x14_2 p447 q447; (try rw [← Nbq50.out] at hx447_0); cases e447; replace p447 := eq_true p447; replace q447 := eq_true q447; have p448 : 0 ≤ (x16_3 : Int) := of_decide_eq_true (by first | (with_reducible assumption) | assumption); have q448 : x16_3 < (t438.length : Int) := of_decide_eq_true (by first | (with_reducible assumption) | assumption); obtain ⟨ad448, e448, hx448_0⟩ := Kd.at_bool (Kd.R_reads' HO_15.out).2.2 x16_3 p448 q448; (try rw [← Nbq50.out] at hx448_0); obtain rfl : ad446 = ad448 := (by injection e448); replace p448 := eq_true p448; replace q448 := eq_true q448; have p449 : 0 ≤ (x16_3 : Int) := of_decide_eq_true (by first | (with_reducible assumption) | assumption); have q449 : x16_3 < (x9_1.length : Int) := of_decide_eq_true (by first | (with_reducible assumption) | assumption); obtain ⟨ad449, e449, hx449_0⟩ := Kd.at_int (Kd.R_reads' HO_9.out).2.2 x16_3 p449 q449; obtain rfl : ad444 = ad449 := (by injection e449); replace p449 := eq_true p449; replace q449 := eq_true q449; have p450 : 0 ≤ (x14_2 : Int) := of_decide_eq_true (by first | (with_reducible assumption) | assumption); have q450 : x14_2 < (x9_1.length : Int) := of_decide_eq_true (by first | (with_reducible assumption) | assumption); obtain ⟨ad450, e450, hx450_0⟩ := Kd.at_int (Kd.R_reads' HO_9.out).2.2 x14_2 p450 q450; obtain rfl : ad444 = ad450 := (by injection e450); replace p450 := eq_true p450; replace q450 := eq_true q450))
                                              repeat (go_quiet (first | (go_at_call 22; (with_reducible refine (graph_Reach.calls k3 t421 _ _ t422 x16_3 t441 _ ?side1 ?side2 A42.out).mono ?_); (case side1 => repeat (first | exact (Kd.R_reads' HO_7.out).2.2 | (with_reducible refine Kd.C_alloc ?_ _) | (with_reducible refine Kd.C_drewN ?_ _) | (with_reducible refine Kd.C_drew ?_))); (case side2 => exact (Kd.R_reads' HO_7.out).2.1); rintro e w63 ⟨v442, rfl, ho0, hb⟩; have n0_ := Aside0.mk (Kd.R_below (by (with_reducible repeat (first | apply Kd.R_alloc | apply Kd.R_drewN | apply Kd.R_drew)); exact HO_7.out) hb); have n1_ := Aside0.mk (Kd.R_below (by (with_reducible repeat (first | apply Kd.R_alloc | apply Kd.R_drewN | apply Kd.R_drew)); exact HO_9.out) hb); have n2_ := Aside0.mk (Kd.R_elder' (by (with_reducible repeat (first | apply Kd.R_alloc | apply Kd.R_drewN | apply Kd.R_drew)); exact HO_15.out) (Kd.R_base ho0) hb); have n3_ := Aside0.mk (Kd.R_lower (Kd.R_new' ho0 (Kd.R_lt (by (with_reducible repeat (first | apply Kd.R_alloc | apply Kd.R_drewN | apply Kd.R_drew)); exact HO_15.out))) (below_size (by repeat (first | (with_reducible first | exact HB.out | apply below_alloc | apply pw_below_drewN | apply below_drew1) | exact HB.out)))); have n4_ := Aside0.mk (below_step (by repeat (first | (with_reducible first | exact HB.out | apply below_alloc | apply pw_below_drewN | apply below_drew1) | exact HB.out)) hb); clear HO_7; clear HO_9; clear HO_15; clear HB; have HO_7 := n0_; have HO_9 := n1_; have HO_15 := n2_; have HO443 := n3_; have HB := n4_; clear n0_ n1_ n2_ n3_ n4_; (try clear hb); (try clear hb2); (try clear hk); (try clear hi); (try clear ho0); obtain ⟨Ao64, co64, eo64⟩ := Kd.R_slice HO_15.out; subst eo64; obtain ⟨Ao65, co65, eo65⟩ := Kd.R_slice HO443.out; subst eo65; obtain ⟨Ao66, co66, eo66⟩ := Kd.R_slice HO_9.out; subst eo66; have p444 : 0 ≤ (x14_2 : Int) := of_decide_eq_true (by first | (with_reducible assumption) | assumption); have q444 : x14_2 < (x9_1.length : Int) := of_decide_eq_true (by first | (with_reducible assumption) | assumption); obtain ⟨ad444, e444, hx444_0⟩ := Kd.at_int (Kd.R_reads' HO_9.out).2.2 x14_2 p444 q444; cases e444; replace p444 := eq_true p444; replace q444 := eq_true q444; have p445 : 0 ≤ (x16_3 : Int) := of_decide_eq_true (by first | (with_reducible assumption) | assumption); have q445 : x16_3 < (x9_1.length : Int) := of_decide_eq_true (by first | (with_reducible assumption) | assumption); obtain ⟨ad445, e445, hx445_0⟩ := Kd.at_int (Kd.R_reads' HO_9.out).2.2 x16_3 p445 q445; obtain rfl : ad444 = ad445 := (by injection e445); replace p445 := eq_true p445; replace q445 := eq_true q445; have p446 : 0 ≤ (x16_3 : Int) := of_decide_eq_true (by first | (with_reducible assumption) | assumption); have q446 : x16_3 < (t438.length : Int) := of_decide_eq_true (by first | (with_reducible assumption) | assumption); obtain ⟨ad446, e446, hx446_0⟩ := Kd.at_bool (Kd.R_reads' HO_15.out).2.2 x16_3 p446 q446; (try rw [← Nbq50.out] at hx446_0); cases e446; replace p446 := eq_true p446; replace q446 := eq_true q446; have p447 : 0 ≤ (x14_2 : Int) := of_decide_eq_true (by first | (with_reducible assumption) | assumption); have q447 : x14_2 < (t441.length : Int) := of_decide_eq_true (by first | (with_reducible assumption) | assumption); obtain ⟨ad447, e447, hx447_0⟩ := Kd.at_bool (Kd.R_reads' HO443.out).2.2 x14_2 p447 q447; (try rw [← Nbq50.out] at hx447_0); cases e447; replace p447 := eq_true p447; replace q447 := eq_true q447; have p448 : 0 ≤ (x16_3 : Int) := of_decide_eq_true (by first | (with_reducible assumption) | assumption); have q448 : x16_3 < (t438.length : Int) := of_decide_eq_true (by first | (with_reducible assumption) | assumption); obtain ⟨ad448, e448, hx448_0⟩ := Kd.at_bool (Kd.R_reads' HO_15.out).2.2 x16_3 p448 q448; (try rw [← Nbq50.out] at hx448_0); obtain rfl : ad446 = ad448 := (by injection e448); replace p448 := eq_true p448; replace q448 := eq_true q448; have p449 : 0 ≤ (x16_3 : Int) := of_decide_eq_true (by first | (with_reducible assumption) | assumption); have q449 : x16_3 < (x9_1.length : Int) := of_decide_eq_true (by first | (with_reducible assumption) | assumption); obtain ⟨ad449, e449, hx449_0⟩ := Kd.at_int (Kd.R_reads' HO_9.out).2.2 x16_3 p449 q449; obtain rfl : ad444 = ad449 := (by injection e449); replace p449 := eq_true p449; replace q449 := eq_true q449; have p450 : 0 ≤ (x14_2 : Int) := of_decide_eq_true (by first | (with_reducible assumption) | assumption); have q450 : x14_2 < (x9_1.length : Int) := of_decide_eq_true (by first | (with_reducible assumption) | assumption); obtain ⟨ad450, e450, hx450_0⟩ := Kd.at_int (Kd.R_reads' HO_9.out).2.2 x14_2 p450 q450; obtain rfl : ad444 = ad450 := (by injection e450); replace p450 := eq_true p450; replace q450 := eq_true q450)); try go_wp2_with (first | (go_at_call 22; (with_reducible refine (graph_Reach.calls k3 t421 _ _ t422 x16_3 t441 _ ?side1 ?side2 A42.out).mono ?_); (case side1 => repeat (first | exact (Kd.R_reads' HO_7.out).2.2 | (with_reducible refine Kd.C_alloc ?_ _) | (with_reducible refine Kd.C_drewN ?_ _) | (with_reducible refine Kd.C_drew ?_))); (case side2 => exact (Kd.R_reads' HO_7.out).2.1); rintro e w63 ⟨v442, rfl, ho0, hb⟩; have n0_ := Aside0.mk (Kd.R_below (by (with_reducible repeat (first | apply Kd.R_alloc | apply Kd.R_drewN | apply Kd.R_drew)); exact HO_7.out) hb); have n1_ := Aside0.mk (Kd.R_below (by (with_reducible repeat (first | apply Kd.R_alloc | apply Kd.R_drewN | apply Kd.R_drew)); exact HO_9.out) hb); have n2_ := Aside0.mk (Kd.R_elder' (by (with_reducible repeat (first | apply Kd.R_alloc | apply Kd.R_drewN | apply Kd.R_drew)); exact HO_15.out) (Kd.R_base ho0) hb); have n3_ := Aside0.mk (Kd.R_lower (Kd.R_new' ho0 (Kd.R_lt (by (with_reducible repeat (first | apply Kd.R_alloc | apply Kd.R_drewN | apply Kd.R_drew)); exact HO_15.out))) (below_size (by repeat (first | (with_reducible first | exact HB.out | apply below_alloc | apply pw_below_drewN | apply below_drew1) | exact HB.out)))); have n4_ := Aside0.mk (below_step (by repeat (first | (with_reducible first | exact HB.out | apply below_alloc | apply pw_below_drewN | apply below_drew1) | exact HB.out)) hb); clear HO_7; clear HO_9; clear HO_15; clear HB; have HO_7 := n0_; have HO_9 := n1_; have HO_15 := n2_; have HO443 := n3_; have HB := n4_; clear n0_ n1_ n2_ n3_ n4_; (try clear hb); (try clear hb2); (try clear hk); (try clear hi); (try clear ho0); obtain ⟨Ao64, co64, eo64⟩ := Kd.R_slice HO_15.out; subst eo64; obtain ⟨Ao65, co65, eo65⟩ := Kd.R_slice HO443.out; subst eo65; obtain ⟨Ao66, co66, eo66⟩ := Kd.R_slice HO_9.out; subst eo66; have p444 : 0 ≤ (x14_2 : Int) := of_decide_eq_true (by first | (with_reducible assumption) | assumption); have q444 : x14_2 < (x9_1.length : Int) := of_decide_eq_true (by first | (with_reducible assumption) | assumption); obtain ⟨ad444, e444, hx444_0⟩ := Kd.at_int (Kd.R_reads' HO_9.out).2.2 x14_2 p444 q444; cases e444; replace p444 := eq_true p444; replace q444 := eq_true q444; have p445 : 0 ≤ (x16_3 : Int) := of_decide_eq_true (by first | (with_reducible assumption) | assumption); have q445 : x16_3 < (x9_1.length : Int) := of_decide_eq_true (by first | (with_reducible assumption) | assumption); obtain ⟨ad445, e445, hx445_0⟩ := Kd.at_int (Kd.R_reads' HO_9.out).2.2 x16_3 p445 q445; obtain rfl : ad444 = ad445 := (by injection e445); replace p445 := eq_true p445; replace q445 := eq_true q445; have p446 : 0 ≤ (x16_3 : Int) := of_decide_eq_true (by first | (with_reducible assumption) | assumption); have q446 : x16_3 < (t438.length : Int) := of_decide_eq_true (by first | (with_reducible assumption) | assumption); obtain ⟨ad446, e446, hx446_0⟩ := Kd.at_bool (Kd.R_reads' HO_15.out).2.2 x16_3 p446 q446; (try rw [← Nbq50.out] at hx446_0); cases e446; replace p446 := eq_true p446; replace q446 := eq_true q446; have p447 : 0 ≤ (x14_2 : Int) := of_decide_eq_true (by first | (with_reducible assumption) | assumption); have q447 : x14_2 < (t441.length : Int) := of_decide_eq_true (by first | (with_reducible assumption) | assumption); obtain ⟨ad447, e447, hx447_0⟩ := Kd.at_bool (Kd.R_reads' HO443.out).2.2 x14_2 p447 q447; (try rw [← Nbq50.out] at hx447_0); cases e447; replace p447 := eq_true p447; replace q447 := eq_true q447; have p448 : 0 ≤ (x16_3 : Int) := of_decide_eq_true (by first | (with_reducible assumption) | assumption); have q448 : x16_3 < (t438.length : Int) := of_decide_eq_true (by first | (with_reducible assumption) | assumption); obtain ⟨ad448, e448, hx448_0⟩ := Kd.at_bool (Kd.R_reads' HO_15.out).2.2 x16_3 p448 q448; (try rw [← Nbq50.out] at hx448_0); obtain rfl : ad446 = ad448 := (by injection e448); replace p448 := eq_true p448; replace q448 := eq_true q448; have p449 : 0 ≤ (x16_3 : Int) := of_decide_eq_true (by first | (with_reducible assumption) | assumption); have q449 : x16_3 < (x9_1.length : Int) := of_decide_eq_true (by first | (with_reducible assumption) | assumption); obtain ⟨ad449, e449, hx449_0⟩ := Kd.at_int (Kd.R_reads' HO_9.out).2.2 x16_3 p449 q449; obtain rfl : ad444 = ad449 := (by injection e449); replace p449 := eq_true p449; replace q449 := eq_true q449; have p450 : 0 ≤ (x14_2 : Int) := of_decide_eq_true (by first | (with_reducible assumption) | assumption); have q450 : x14_2 < (x9_1.length : Int) := of_decide_eq_true (by first | (with_reducible assumption) | assumption); obtain ⟨ad450, e450, hx450_0⟩ := Kd.at_int (Kd.R_reads' HO_9.out).2.2 x14_2 p450 q450; obtain rfl : ad444 = ad450 := (by injection e450); replace p450 := eq_true p450; replace q450 := eq_true q450)))
                                              go_roundg k3
                                              case measure => have := HK1.out; have := HK2.out; have := HK3.out; omega
                                              case rel => exact ⟨(wrap64 (x16_3 + 1)), (by first | rfl | (simp; done) | (simp [*]; done)), H', ⟨by have := HK1.out; have := HK2.out; have := HK3.out; omega⟩, ⟨by (with_reducible repeat (first | apply Kd.R_alloc | apply Kd.R_drewN | apply Kd.R_drew)); exact HO_7.out⟩, ⟨by (with_reducible repeat (first | apply Kd.R_alloc | apply Kd.R_drewN | apply Kd.R_drew)); exact HO_9.out⟩, ⟨by (with_reducible repeat (first | apply Kd.R_alloc | apply Kd.R_drewN | apply Kd.R_drew)); exact Kd.R_mono HO_15.out (fun _ hk => trivial)⟩, ⟨by repeat (first | (with_reducible first | exact HB.out | apply below_alloc | apply pw_below_drewN | apply below_drew1) | exact HB.out)⟩⟩
                                        · rw [if_neg c52] at H
                                          exact absurd H (by simp)
                                      · replace c51 := Bool.eq_false_iff.mpr c51
                                        subst c51
                                        have H1 : (if (((rd x9_1 x14_2) == (rd x9_1 x16_3)) != false) = true then (some false) else (lambrequinlaw10_GraphParts.l3 k3 t420 t421 t422 x9_1 x10_1 x14_2 t438 (wrap64 (x16_3 + 1)))) = some r := by rw [if_neg (show ¬ (false = true) by decide)] at H; exact H
                                        clear H
                                        have H := H1
                                        clear H1
                                        by_cases c67 : (((rd x9_1 x14_2) == (rd x9_1 x16_3)) != false) = true
                                        · rw [if_pos c67] at H
                                          have c67b0 : (((rd x9_1 x14_2) == (rd x9_1 x16_3)) != false) = true := c67
                                          (try (have c67b1 : decide (((rd x9_1 x14_2) == (rd x9_1 x16_3)) = false) = false := by simpa using c67))
                                          (try (have c67b2 : (((rd x9_1 x14_2) == (rd x9_1 x16_3)) == false) = false := by simpa using c67))
                                          (try (have c67b3 : ¬ (((rd x9_1 x14_2) == (rd x9_1 x16_3)) = false) := by simpa using c67))
                                          clear c67
                                          obtain rfl := Option.some.inj H
                                          go_wp2_with (first | (go_at_call 22; (with_reducible refine (graph_Reach.calls k3 t421 _ _ t422 x16_3 t441 _ ?side1 ?side2 A42.out).mono ?_); (case side1 => repeat (first | exact (Kd.R_reads' HO_7.out).2.2 | (with_reducible refine Kd.C_alloc ?_ _) | (with_reducible refine Kd.C_drewN ?_ _) | (with_reducible refine Kd.C_drew ?_))); (case side2 => exact (Kd.R_reads' HO_7.out).2.1); rintro e w68 ⟨v442, rfl, ho0, hb⟩; have n0_ := Aside0.mk (Kd.R_below (by (with_reducible repeat (first | apply Kd.R_alloc | apply Kd.R_drewN | apply Kd.R_drew)); exact HO_7.out) hb); have n1_ := Aside0.mk (Kd.R_below (by (with_reducible repeat (first | apply Kd.R_alloc | apply Kd.R_drewN | apply Kd.R_drew)); exact HO_9.out) hb); have n2_ := Aside0.mk (Kd.R_elder' (by (with_reducible repeat (first | apply Kd.R_alloc | apply Kd.R_drewN | apply Kd.R_drew)); exact HO_15.out) (Kd.R_base ho0) hb); have n3_ := Aside0.mk (Kd.R_lower (Kd.R_new' ho0 (Kd.R_lt (by (with_reducible repeat (first | apply Kd.R_alloc | apply Kd.R_drewN | apply Kd.R_drew)); exact HO_15.out))) (below_size (by repeat (first | (with_reducible first | exact HB.out | apply below_alloc | apply pw_below_drewN | apply below_drew1) | exact HB.out)))); have n4_ := Aside0.mk (below_step (by repeat (first | (with_reducible first | exact HB.out | apply below_alloc | apply pw_below_drewN | apply below_drew1) | exact HB.out)) hb); clear HO_7; clear HO_9; clear HO_15; clear HB; have HO_7 := n0_; have HO_9 := n1_; have HO_15 := n2_; have HO443 := n3_; have HB := n4_; clear n0_ n1_ n2_ n3_ n4_; (try clear hb); (try clear hb2); (try clear hk); (try clear hi); (try clear ho0); obtain ⟨Ao69, co69, eo69⟩ := Kd.R_slice HO_15.out; subst eo69; obtain ⟨Ao70, co70, eo70⟩ := Kd.R_slice HO443.out; subst eo70; obtain ⟨Ao71, co71, eo71⟩ := Kd.R_slice HO_9.out; subst eo71; have p444 : 0 ≤ (x14_2 : Int) := of_decide_eq_true (by first | (with_reducible assumption) | assumption); have q444 : x14_2 < (x9_1.length : Int) := of_decide_eq_true (by first | (with_reducible assumption) | assumption); obtain ⟨ad444, e444, hx444_0⟩ := Kd.at_int (Kd.R_reads' HO_9.out).2.2 x14_2 p444 q444; cases e444; replace p444 := eq_true p444; replace q444 := eq_true q444; have p445 : 0 ≤ (x16_3 : Int) := of_decide_eq_true (by first | (with_reducible assumption) | assumption); have q445 : x16_3 < (x9_1.length : Int) := of_decide_eq_true (by first | (with_reducible assumption) | assumption); obtain ⟨ad445, e445, hx445_0⟩ := Kd.at_int (Kd.R_reads' HO_9.out).2.2 x16_3 p445 q445; obtain rfl : ad444 = ad445 := (by injection e445); replace p445 := eq_true p445; replace q445 := eq_true q445; have p446 : 0 ≤ (x16_3 : Int) := of_decide_eq_true (by first | (with_reducible assumption) | assumption); have q446 : x16_3 < (t438.length : Int) := of_decide_eq_true (by first | (with_reducible assumption) | assumption); obtain ⟨ad446, e446, hx446_0⟩ := Kd.at_bool (Kd.R_reads' HO_15.out).2.2 x16_3 p446 q446; (try rw [← Nbq50.out] at hx446_0); cases e446; replace p446 := eq_true p446; replace q446 := eq_true q446))
                                          repeat (go_quiet (first | (go_at_call 22; (with_reducible refine (graph_Reach.calls k3 t421 _ _ t422 x16_3 t441 _ ?side1 ?side2 A42.out).mono ?_); (case side1 => repeat (first | exact (Kd.R_reads' HO_7.out).2.2 | (with_reducible refine Kd.C_alloc ?_ _) | (with_reducible refine Kd.C_drewN ?_ _) | (with_reducible refine Kd.C_drew ?_))); (case side2 => exact (Kd.R_reads' HO_7.out).2.1); rintro e w68 ⟨v442, rfl, ho0, hb⟩; have n0_ := Aside0.mk (Kd.R_below (by (with_reducible repeat (first | apply Kd.R_alloc | apply Kd.R_drewN | apply Kd.R_drew)); exact HO_7.out) hb); have n1_ := Aside0.mk (Kd.R_below (by (with_reducible repeat (first | apply Kd.R_alloc | apply Kd.R_drewN | apply Kd.R_drew)); exact HO_9.out) hb); have n2_ := Aside0.mk (Kd.R_elder' (by (with_reducible repeat (first | apply Kd.R_alloc | apply Kd.R_drewN | apply Kd.R_drew)); exact HO_15.out) (Kd.R_base ho0) hb); have n3_ := Aside0.mk (Kd.R_lower (Kd.R_new' ho0 (Kd.R_lt (by (with_reducible repeat (first | apply Kd.R_alloc | apply Kd.R_drewN | apply Kd.R_drew)); exact HO_15.out))) (below_size (by repeat (first | (with_reducible first | exact HB.out | apply below_alloc | apply pw_below_drewN | apply below_drew1) | exact HB.out)))); have n4_ := Aside0.mk (below_step (by repeat (first | (with_reducible first | exact HB.out | apply below_alloc | apply pw_below_drewN | apply below_drew1) | exact HB.out)) hb); clear HO_7; clear HO_9; clear HO_15; clear HB; have HO_7 := n0_; have HO_9 := n1_; have HO_15 := n2_; have HO443 := n3_; have HB := n4_; clear n0_ n1_ n2_ n3_ n4_; (try clear hb); (try clear hb2); (try clear hk); (try clear hi); (try clear ho0); obtain ⟨Ao69, co69, eo69⟩ := Kd.R_slice HO_15.out; subst eo69; obtain ⟨Ao70, co70, eo70⟩ := Kd.R_slice HO443.out; subst eo70; obtain ⟨Ao71, co71, eo71⟩ := Kd.R_slice HO_9.out; subst eo71; have p444 : 0 ≤ (x14_2 : Int) := of_decide_eq_true (by first | (with_reducible assumption) | assumption); have q444 : x14_2 < (x9_1.length : Int) := of_decide_eq_true (by first | (with_reducible assumption) | assumption); obtain ⟨ad444, e444, hx444_0⟩ := Kd.at_int (Kd.R_reads' HO_9.out).2.2 x14_2 p444 q444; cases e444; replace p444 := eq_true p444; replace q444 := eq_true q444; have p445 : 0 ≤ (x16_3 : Int) := of_decide_eq_true (by first | (with_reducible assumption) | assumption); have q445 : x16_3 < (x9_1.length : Int) := of_decide_eq_true (by first | (with_reducible assumption) | assumption); obtain ⟨ad445, e445, hx445_0⟩ := Kd.at_int (Kd.R_reads' HO_9.out).2.2 x16_3 p445 q445; obtain rfl : ad444 = ad445 := (by injection e445); replace p445 := eq_true p445; replace q445 := eq_true q445; have p446 : 0 ≤ (x16_3 : Int) := of_decide_eq_true (by first | (with_reducible assumption) | assumption); have q446 : x16_3 < (t438.length : Int) := of_decide_eq_true (by first | (with_reducible assumption) | assumption); obtain ⟨ad446, e446, hx446_0⟩ := Kd.at_bool (Kd.R_reads' HO_15.out).2.2 x16_3 p446 q446; (try rw [← Nbq50.out] at hx446_0); cases e446; replace p446 := eq_true p446; replace q446 := eq_true q446)); try go_wp2_with (first | (go_at_call 22; (with_reducible refine (graph_Reach.calls k3 t421 _ _ t422 x16_3 t441 _ ?side1 ?side2 A42.out).mono ?_); (case side1 => repeat (first | exact (Kd.R_reads' HO_7.out).2.2 | (with_reducible refine Kd.C_alloc ?_ _) | (with_reducible refine Kd.C_drewN ?_ _) | (with_reducible refine Kd.C_drew ?_))); (case side2 => exact (Kd.R_reads' HO_7.out).2.1); rintro e w68 ⟨v442, rfl, ho0, hb⟩; have n0_ := Aside0.mk (Kd.R_below (by (with_reducible repeat (first | apply Kd.R_alloc | apply Kd.R_drewN | apply Kd.R_drew)); exact HO_7.out) hb); have n1_ := Aside0.mk (Kd.R_below (by (with_reducible repeat (first | apply Kd.R_alloc | apply Kd.R_drewN | apply Kd.R_drew)); exact HO_9.out) hb); have n2_ := Aside0.mk (Kd.R_elder' (by (with_reducible repeat (first | apply Kd.R_alloc | apply Kd.R_drewN | apply Kd.R_drew)); exact HO_15.out) (Kd.R_base ho0) hb); have n3_ := Aside0.mk (Kd.R_lower (Kd.R_new' ho0 (Kd.R_lt (by (with_reducible repeat (first | apply Kd.R_alloc | apply Kd.R_drewN | apply Kd.R_drew)); exact HO_15.out))) (below_size (by repeat (first | (with_reducible first | exact HB.out | apply below_alloc | apply pw_below_drewN | apply below_drew1) | exact HB.out)))); have n4_ := Aside0.mk (below_step (by repeat (first | (with_reducible first | exact HB.out | apply below_alloc | apply pw_below_drewN | apply below_drew1) | exact HB.out)) hb); clear HO_7; clear HO_9; clear HO_15; clear HB; have HO_7 := n0_; have HO_9 := n1_; have HO_15 := n2_; have HO443 := n3_; have HB := n4_; clear n0_ n1_ n2_ n3_ n4_; (try clear hb); (try clear hb2); (try clear hk); (try clear hi); (try clear ho0); obtain ⟨Ao69, co69, eo69⟩ := Kd.R_slice HO_15.out; subst eo69; obtain ⟨Ao70, co70, eo70⟩ := Kd.R_slice HO443.out; subst eo70; obtain ⟨Ao71, co71, eo71⟩ := Kd.R_slice HO_9.out; subst eo71; have p444 : 0 ≤ (x14_2 : Int) := of_decide_eq_true (by first | (with_reducible assumption) | assumption); have q444 : x14_2 < (x9_1.length : Int) := of_decide_eq_true (by first | (with_reducible assumption) | assumption); obtain ⟨ad444, e444, hx444_0⟩ := Kd.at_int (Kd.R_reads' HO_9.out).2.2 x14_2 p444 q444; cases e444; replace p444 := eq_true p444; replace q444 := eq_true q444; have p445 : 0 ≤ (x16_3 : Int) := of_decide_eq_true (by first | (with_reducible assumption) | assumption); have q445 : x16_3 < (x9_1.length : Int) := of_decide_eq_true (by first | (with_reducible assumption) | assumption); obtain ⟨ad445, e445, hx445_0⟩ := Kd.at_int (Kd.R_reads' HO_9.out).2.2 x16_3 p445 q445; obtain rfl : ad444 = ad445 := (by injection e445); replace p445 := eq_true p445; replace q445 := eq_true q445; have p446 : 0 ≤ (x16_3 : Int) := of_decide_eq_true (by first | (with_reducible assumption) | assumption); have q446 : x16_3 < (t438.length : Int) := of_decide_eq_true (by first | (with_reducible assumption) | assumption); obtain ⟨ad446, e446, hx446_0⟩ := Kd.at_bool (Kd.R_reads' HO_15.out).2.2 x16_3 p446 q446; (try rw [← Nbq50.out] at hx446_0); cases e446; replace p446 := eq_true p446; replace q446 := eq_true q446)))
                                          go_ret
                                          exact ⟨by first | rfl | (simp [errW_none, errW_some] <;> rfl) | (simp [*, errW_none, errW_some] <;> rfl), by repeat (first | (with_reducible first | exact HB.out | apply below_alloc | apply pw_below_drewN | apply below_drew1) | exact HB.out)⟩
                                        · rw [if_neg c67] at H
                                          have c67b0 : (((rd x9_1 x14_2) == (rd x9_1 x16_3)) != false) = false := by simpa using c67
                                          (try (have c67b1 : decide (((rd x9_1 x14_2) == (rd x9_1 x16_3)) = false) = true := by simpa using c67))
                                          (try (have c67b2 : (((rd x9_1 x14_2) == (rd x9_1 x16_3)) == false) = true := by simpa using c67))
                                          clear c67
                                          have H' := Aside0.mk H
                                          clear H
                                          go_wp2_with (first | (go_at_call 22; (with_reducible refine (graph_Reach.calls k3 t421 _ _ t422 x16_3 t441 _ ?side1 ?side2 A42.out).mono ?_); (case side1 => repeat (first | exact (Kd.R_reads' HO_7.out).2.2 | (with_reducible refine Kd.C_alloc ?_ _) | (with_reducible refine Kd.C_drewN ?_ _) | (with_reducible refine Kd.C_drew ?_))); (case side2 => exact (Kd.R_reads' HO_7.out).2.1); rintro e w72 ⟨v442, rfl, ho0, hb⟩; have n0_ := Aside0.mk (Kd.R_below (by (with_reducible repeat (first | apply Kd.R_alloc | apply Kd.R_drewN | apply Kd.R_drew)); exact HO_7.out) hb); have n1_ := Aside0.mk (Kd.R_below (by (with_reducible repeat (first | apply Kd.R_alloc | apply Kd.R_drewN | apply Kd.R_drew)); exact HO_9.out) hb); have n2_ := Aside0.mk (Kd.R_elder' (by (with_reducible repeat (first | apply Kd.R_alloc | apply Kd.R_drewN | apply Kd.R_drew)); exact HO_15.out) (Kd.R_base ho0) hb); have n3_ := Aside0.mk (Kd.R_lower (Kd.R_new' ho0 (Kd.R_lt (by (with_reducible repeat (first | apply Kd.R_alloc | apply Kd.R_drewN | apply Kd.R_drew)); exact HO_15.out))) (below_size (by repeat (first | (with_reducible first | exact HB.out | apply below_alloc | apply pw_below_drewN | apply below_drew1) | exact HB.out)))); have n4_ := Aside0.mk (below_step (by repeat (first | (with_reducible first | exact HB.out | apply below_alloc | apply pw_below_drewN | apply below_drew1) | exact HB.out)) hb); clear HO_7; clear HO_9; clear HO_15; clear HB; have HO_7 := n0_; have HO_9 := n1_; have HO_15 := n2_; have HO443 := n3_; have HB := n4_; clear n0_ n1_ n2_ n3_ n4_; (try clear hb); (try clear hb2); (try clear hk); (try clear hi); (try clear ho0); obtain ⟨Ao73, co73, eo73⟩ := Kd.R_slice HO_15.out; subst eo73; obtain ⟨Ao74, co74, eo74⟩ := Kd.R_slice HO443.out; subst eo74; obtain ⟨Ao75, co75, eo75⟩ := Kd.R_slice HO_9.out; subst eo75; have p444 : 0 ≤ (x14_2 : Int) := of_decide_eq_true (by first | (with_reducible assumption) | assumption); have q444 : x14_2 < (x9_1.length : Int) := of_decide_eq_true (by first | (with_reducible assumption) | assumption); obtain ⟨ad444, e444, hx444_0⟩ := Kd.at_int (Kd.R_reads' HO_9.out).2.2 x14_2 p444 q444; cases e444; replace p444 := eq_true p444; replace q444 := eq_true q444; have p445 : 0 ≤ (x16_3 : Int) := of_decide_eq_true (by first | (with_reducible assumption) | assumption); have q445 : x16_3 < (x9_1.length : Int) := of_decide_eq_true (by first | (with_reducible assumption) | assumption); obtain ⟨ad445, e445, hx445_0⟩ := Kd.at_int (Kd.R_reads' HO_9.out).2.2 x16_3 p445 q445; obtain rfl : ad444 = ad445 := (by injection e445); replace p445 := eq_true p445; replace q445 := eq_true q445; have p446 : 0 ≤ (x16_3 : Int) := of_decide_eq_true (by first | (with_reducible assumption) | assumption); have q446 : x16_3 < (t438.length : Int) := of_decide_eq_true (by first | (with_reducible assumption) | assumption); obtain ⟨ad446, e446, hx446_0⟩ := Kd.at_bool (Kd.R_reads' HO_15.out).2.2 x16_3 p446 q446; (try rw [← Nbq50.out] at hx446_0); cases e446; replace p446 := eq_true p446; replace q446 := eq_true q446; have p451 : 0 ≤ (x16_3 : Int) := of_decide_eq_true (by first | (with_reducible assumption) | assumption); have q451 : x16_3 < (t438.length : Int) := of_decide_eq_true (by first | (with_reducible assumption) | assumption); obtain ⟨ad451, e451, hx451_0⟩ := Kd.at_bool (Kd.R_reads' HO_15.out).2.2 x16_3 p451 q451; (try rw [← Nbq50.out] at hx451_0); obtain rfl : ad446 = ad451 := (by injection e451); replace p451 := eq_true p451; replace q451 := eq_true q451))
                                          repeat (go_quiet (first | (go_at_call 22; (with_reducible refine (graph_Reach.calls k3 t421 _ _ t422 x16_3 t441 _ ?side1 ?side2 A42.out).mono ?_); (case side1 => repeat (first | exact (Kd.R_reads' HO_7.out).2.2 | (with_reducible refine Kd.C_alloc ?_ _) | (with_reducible refine Kd.C_drewN ?_ _) | (with_reducible refine Kd.C_drew ?_))); (case side2 => exact (Kd.R_reads' HO_7.out).2.1); rintro e w72 ⟨v442, rfl, ho0, hb⟩; have n0_ := Aside0.mk (Kd.R_below (by (with_reducible repeat (first | apply Kd.R_alloc | apply Kd.R_drewN | apply Kd.R_drew)); exact HO_7.out) hb); have n1_ := Aside0.mk (Kd.R_below (by (with_reducible repeat (first | apply Kd.R_alloc | apply Kd.R_drewN | apply Kd.R_drew)); exact HO_9.out) hb); have n2_ := Aside0.mk (Kd.R_elder' (by (with_reducible repeat (first | apply Kd.R_alloc | apply Kd.R_drewN | apply Kd.R_drew)); exact HO_15.out) (Kd.R_base ho0) hb); have n3_ := Aside0.mk (Kd.R_lower (Kd.R_new' ho0 (Kd.R_lt (by (with_reducible repeat (first | apply Kd.R_alloc | apply Kd.R_drewN | apply Kd.R_drew)); exact HO_15.out))) (below_size (by repeat (first | (with_reducible first | exact HB.out | apply below_alloc | apply pw_below_drewN | apply below_drew1) | exact HB.out)))); have n4_ := Aside0.mk (below_step (by repeat (first | (with_reducible first | exact HB.out | apply below_alloc | apply pw_below_drewN | apply below_drew1) | exact HB.out)) hb); clear HO_7; clear HO_9; clear HO_15; clear HB; have HO_7 := n0_; have HO_9 := n1_; have HO_15 := n2_; have HO443 := n3_; have HB := n4_; clear n0_ n1_ n2_ n3_ n4_; (try clear hb); (try clear hb2); (try clear hk); (try clear hi); (try clear ho0); obtain ⟨Ao73, co73, eo73⟩ := Kd.R_slice HO_15.out; subst eo73; obtain ⟨Ao74, co74, eo74⟩ := Kd.R_slice HO443.out; subst eo74; obtain ⟨Ao75, co75, eo75⟩ := Kd.R_slice HO_9.out; subst eo75; have p444 : 0 ≤ (x14_2 : Int) := of_decide_eq_true (by first | (with_reducible assumption) | assumption); have q444 : x14_2 < (x9_1.length : Int) := of_decide_eq_true (by first | (with_reducible assumption) | assumption); obtain ⟨ad444, e444, hx444_0⟩ := Kd.at_int (Kd.R_reads' HO_9.out).2.2 x14_2 p444 q444; cases e444; replace p444 := eq_true p444; replace q444 := eq_true q444; have p445 : 0 ≤ (x16_3 : Int) := of_decide_eq_true (by first | (with_reducible assumption) | assumption); have q445 : x16_3 < (x9_1.length : Int) := of_decide_eq_true (by first | (with_reducible assumption) | assumption); obtain ⟨ad445, e445, hx445_0⟩ := Kd.at_int (Kd.R_reads' HO_9.out).2.2 x16_3 p445 q445; obtain rfl : ad444 = ad445 := (by injection e445); replace p445 := eq_true p445; replace q445 := eq_true q445; have p446 : 0 ≤ (x16_3 : Int) := of_decide_eq_true (by first | (with_reducible assumption) | assumption); have q446 : x16_3 < (t438.length : Int) := of_decide_eq_true (by first | (with_reducible assumption) | assumption); obtain ⟨ad446, e446, hx446_0⟩ := Kd.at_bool (Kd.R_reads' HO_15.out).2.2 x16_3 p446 q446; (try rw [← Nbq50.out] at hx446_0); cases e446; replace p446 := eq_true p446; replace q446 := eq_true q446; have p451 : 0 ≤ (x16_3 : Int) := of_decide_eq_true (by first | (with_reducible assumption) | assumption); have q451 : x16_3 < (t438.length : Int) := of_decide_eq_true (by first | (with_reducible assumption) | assumption); obtain ⟨ad451, e451, hx451_0⟩ := Kd.at_bool (Kd.R_reads' HO_15.out).2.2 x16_3 p451 q451; (try rw [← Nbq50.out] at hx451_0); obtain rfl : ad446 = ad451 := (by injection e451); replace p451 := eq_true p451; replace q451 := eq_true q451)); try go_wp2_with (first | (go_at_call 22; (with_reducible refine (graph_Reach.calls k3 t421 _ _ t422 x16_3 t441 _ ?side1 ?side2 A42.out).mono ?_); (case side1 => repeat (first | exact (Kd.R_reads' HO_7.out).2.2 | (with_reducible refine Kd.C_alloc ?_ _) | (with_reducible refine Kd.C_drewN ?_ _) | (with_reducible refine Kd.C_drew ?_))); (case side2 => exact (Kd.R_reads' HO_7.out).2.1); rintro e w72 ⟨v442, rfl, ho0, hb⟩; have n0_ := Aside0.mk (Kd.R_below (by (with_reducible repeat (first | apply Kd.R_alloc | apply Kd.R_drewN | apply Kd.R_drew)); exact HO_7.out) hb); have n1_ := Aside0.mk (Kd.R_below (by (with_reducible repeat (first | apply Kd.R_alloc | apply Kd.R_drewN | apply Kd.R_drew)); exact HO_9.out) hb); have n2_ := Aside0.mk (Kd.R_elder' (by (with_reducible repeat (first | apply Kd.R_alloc | apply Kd.R_drewN | apply Kd.R_drew)); exact HO_15.out) (Kd.R_base ho0) hb); have n3_ := Aside0.mk (Kd.R_lower (Kd.R_new' ho0 (Kd.R_lt (by (with_reducible repeat (first | apply Kd.R_alloc | apply Kd.R_drewN | apply Kd.R_drew)); exact HO_15.out))) (below_size (by repeat (first | (with_reducible first | exact HB.out | apply below_alloc | apply pw_below_drewN | apply below_drew1) | exact HB.out)))); have n4_ := Aside0.mk (below_step (by repeat (first | (with_reducible first | exact HB.out | apply below_alloc | apply pw_below_drewN | apply below_drew1) | exact HB.out)) hb); clear HO_7; clear HO_9; clear HO_15; clear HB; have HO_7 := n0_; have HO_9 := n1_; have HO_15 := n2_; have HO443 := n3_; have HB := n4_; clear n0_ n1_ n2_ n3_ n4_; (try clear hb); (try clear hb2); (try clear hk); (try clear hi); (try clear ho0); obtain ⟨Ao73, co73, eo73⟩ := Kd.R_slice HO_15.out; subst eo73; obtain ⟨Ao74, co74, eo74⟩ := Kd.R_slice HO443.out; subst eo74; obtain ⟨Ao75, co75, eo75⟩ := Kd.R_slice HO_9.out; subst eo75; have p444 : 0 ≤ (x14_2 : Int) := of_decide_eq_true (by first | (with_reducible assumption) | assumption); have q444 : x14_2 < (x9_1.length : Int) := of_decide_eq_true (by first | (with_reducible assumption) | assumption); obtain ⟨ad444, e444, hx444_0⟩ := Kd.at_int (Kd.R_reads' HO_9.out).2.2 x14_2 p444 q444; cases e444; replace p444 := eq_true p444; replace q444 := eq_true q444; have p445 : 0 ≤ (x16_3 : Int) := of_decide_eq_true (by first | (with_reducible assumption) | assumption); have q445 : x16_3 < (x9_1.length : Int) := of_decide_eq_true (by first | (with_reducible assumption) | assumption); obtain ⟨ad445, e445, hx445_0⟩ := Kd.at_int (Kd.R_reads' HO_9.out).2.2 x16_3 p445 q445; obtain rfl : ad444 = ad445 := (by injection e445); replace p445 := eq_true p445; replace q445 := eq_true q445; have p446 : 0 ≤ (x16_3 : Int) := of_decide_eq_true (by first | (with_reducible assumption) | assumption); have q446 : x16_3 < (t438.length : Int) := of_decide_eq_true (by first | (with_reducible assumption) | assumption); obtain ⟨ad446, e446, hx446_0⟩ := Kd.at_bool (Kd.R_reads' HO_15.out).2.2 x16_3 p446 q446; (try rw [← Nbq50.out] at hx446_0); cases e446; replace p446 := eq_true p446; replace q446 := eq_true q446; have p451 : 0 ≤ (x16_3 : Int) := of_decide_eq_true (by first | (with_reducible assumption) | assumption); have q451 : x16_3 < (t438.length : Int) := of_decide_eq_true (by first | (with_reducible assumption) | assumption); obtain ⟨ad451, e451, hx451_0⟩ := Kd.at_bool (Kd.R_reads' HO_15.out).2.2 x16_3 p451 q451; (try rw [← Nbq50.out] at hx451_0); obtain rfl : ad446 = ad451 := (by injection e451); replace p451 := eq_true p451; replace q451 := eq_true q451)))
                                          go_roundg k3
                                          case measure => have := HK1.out; have := HK2.out; have := HK3.out; omega
                                          case rel => exact ⟨(wrap64 (x16_3 + 1)), (by first | rfl | (simp; done) | (simp [*]; done)), H', ⟨by have := HK1.out; have := HK2.out; have := HK3.out; omega⟩, ⟨by (with_reducible repeat (first | apply Kd.R_alloc | apply Kd.R_drewN | apply Kd.R_drew)); exact HO_7.out⟩, ⟨by (with_reducible repeat (first | apply Kd.R_alloc | apply Kd.R_drewN | apply Kd.R_drew)); exact HO_9.out⟩, ⟨by (with_reducible repeat (first | apply Kd.R_alloc | apply Kd.R_drewN | apply Kd.R_drew)); exact Kd.R_mono HO_15.out (fun _ hk => trivial)⟩, ⟨by repeat (first | (with_reducible first | exact HB.out | apply below_alloc | apply pw_below_drewN | apply below_drew1) | exact HB.out)⟩⟩
                                    · rw [if_neg c49] at H
                                      exact absurd H (by simp)
                                  · rw [if_neg c48] at H
                                    exact absurd H (by simp)
                                · rw [if_neg c47] at H
                                  exact absurd H (by simp)
                              · rw [if_neg c46] at H
                                exact absurd H (by simp)
                            · rw [if_neg c45] at H
                              exact absurd H (by simp)
                          · rw [if_neg c44] at H
                            have c44b0 : ((t441.length : Int) == t421) = false := beq_eq_false_iff_ne.mpr c44
                            have c44b1 : ((t441.length : Int) != t421) = true := bne_iff_ne.mpr c44
                            obtain rfl := Option.some.inj H
                            go_wp2_with (first | (go_at_call 22; (with_reducible refine (graph_Reach.calls k3 t421 _ _ t422 x16_3 t441 _ ?side1 ?side2 A42.out).mono ?_); (case side1 => repeat (first | exact (Kd.R_reads' HO_7.out).2.2 | (with_reducible refine Kd.C_alloc ?_ _) | (with_reducible refine Kd.C_drewN ?_ _) | (with_reducible refine Kd.C_drew ?_))); (case side2 => exact (Kd.R_reads' HO_7.out).2.1); rintro e w76 ⟨v442, rfl, ho0, hb⟩; have n0_ := Aside0.mk (Kd.R_below (by (with_reducible repeat (first | apply Kd.R_alloc | apply Kd.R_drewN | apply Kd.R_drew)); exact HO_7.out) hb); have n1_ := Aside0.mk (Kd.R_below (by (with_reducible repeat (first | apply Kd.R_alloc | apply Kd.R_drewN | apply Kd.R_drew)); exact HO_9.out) hb); have n2_ := Aside0.mk (Kd.R_elder' (by (with_reducible repeat (first | apply Kd.R_alloc | apply Kd.R_drewN | apply Kd.R_drew)); exact HO_15.out) (Kd.R_base ho0) hb); have n3_ := Aside0.mk (Kd.R_lower (Kd.R_new' ho0 (Kd.R_lt (by (with_reducible repeat (first | apply Kd.R_alloc | apply Kd.R_drewN | apply Kd.R_drew)); exact HO_15.out))) (below_size (by repeat (first | (with_reducible first | exact HB.out | apply below_alloc | apply pw_below_drewN | apply below_drew1) | exact HB.out)))); have n4_ := Aside0.mk (below_step (by repeat (first | (with_reducible first | exact HB.out | apply below_alloc | apply pw_below_drewN | apply below_drew1) | exact HB.out)) hb); clear HO_7; clear HO_9; clear HO_15; clear HB; have HO_7 := n0_; have HO_9 := n1_; have HO_15 := n2_; have HO443 := n3_; have HB := n4_; clear n0_ n1_ n2_ n3_ n4_; (try clear hb); (try clear hb2); (try clear hk); (try clear hi); (try clear ho0); obtain ⟨Ao77, co77, eo77⟩ := Kd.R_slice HO_15.out; subst eo77; obtain ⟨Ao78, co78, eo78⟩ := Kd.R_slice HO443.out; subst eo78))
                            repeat (go_quiet (first | (go_at_call 22; (with_reducible refine (graph_Reach.calls k3 t421 _ _ t422 x16_3 t441 _ ?side1 ?side2 A42.out).mono ?_); (case side1 => repeat (first | exact (Kd.R_reads' HO_7.out).2.2 | (with_reducible refine Kd.C_alloc ?_ _) | (with_reducible refine Kd.C_drewN ?_ _) | (with_reducible refine Kd.C_drew ?_))); (case side2 => exact (Kd.R_reads' HO_7.out).2.1); rintro e w76 ⟨v442, rfl, ho0, hb⟩; have n0_ := Aside0.mk (Kd.R_below (by (with_reducible repeat (first | apply Kd.R_alloc | apply Kd.R_drewN | apply Kd.R_drew)); exact HO_7.out) hb); have n1_ := Aside0.mk (Kd.R_below (by (with_reducible repeat (first | apply Kd.R_alloc | apply Kd.R_drewN | apply Kd.R_drew)); exact HO_9.out) hb); have n2_ := Aside0.mk (Kd.R_elder' (by (with_reducible repeat (first | apply Kd.R_alloc | apply Kd.R_drewN | apply Kd.R_drew)); exact HO_15.out) (Kd.R_base ho0) hb); have n3_ := Aside0.mk (Kd.R_lower (Kd.R_new' ho0 (Kd.R_lt (by (with_reducible repeat (first | apply Kd.R_alloc | apply Kd.R_drewN | apply Kd.R_drew)); exact HO_15.out))) (below_size (by repeat (first | (with_reducible first | exact HB.out | apply below_alloc | apply pw_below_drewN | apply below_drew1) | exact HB.out)))); have n4_ := Aside0.mk (below_step (by repeat (first | (with_reducible first | exact HB.out | apply below_alloc | apply pw_below_drewN | apply below_drew1) | exact HB.out)) hb); clear HO_7; clear HO_9; clear HO_15; clear HB; have HO_7 := n0_; have HO_9 := n1_; have HO_15 := n2_; have HO443 := n3_; have HB := n4_; clear n0_ n1_ n2_ n3_ n4_; (try clear hb); (try clear hb2); (try clear hk); (try clear hi); (try clear ho0); obtain ⟨Ao77, co77, eo77⟩ := Kd.R_slice HO_15.out; subst eo77; obtain ⟨Ao78, co78, eo78⟩ := Kd.R_slice HO443.out; subst eo78)); try go_wp2_with (first | (go_at_call 22; (with_reducible refine (graph_Reach.calls k3 t421 _ _ t422 x16_3 t441 _ ?side1 ?side2 A42.out).mono ?_); (case side1 => repeat (first | exact (Kd.R_reads' HO_7.out).2.2 | (with_reducible refine Kd.C_alloc ?_ _) | (with_reducible refine Kd.C_drewN ?_ _) | (with_reducible refine Kd.C_drew ?_))); (case side2 => exact (Kd.R_reads' HO_7.out).2.1); rintro e w76 ⟨v442, rfl, ho0, hb⟩; have n0_ := Aside0.mk (Kd.R_below (by (with_reducible repeat (first | apply Kd.R_alloc | apply Kd.R_drewN | apply Kd.R_drew)); exact HO_7.out) hb); have n1_ := Aside0.mk (Kd.R_below (by (with_reducible repeat (first | apply Kd.R_alloc | apply Kd.R_drewN | apply Kd.R_drew)); exact HO_9.out) hb); have n2_ := Aside0.mk (Kd.R_elder' (by (with_reducible repeat (first | apply Kd.R_alloc | apply Kd.R_drewN | apply Kd.R_drew)); exact HO_15.out) (Kd.R_base ho0) hb); have n3_ := Aside0.mk (Kd.R_lower (Kd.R_new' ho0 (Kd.R_lt (by (with_reducible repeat (first | apply Kd.R_alloc | apply Kd.R_drewN | apply Kd.R_drew)); exact HO_15.out))) (below_size (by repeat (first | (with_reducible first | exact HB.out | apply below_alloc | apply pw_below_drewN | apply below_drew1) | exact HB.out)))); have n4_ := Aside0.mk (below_step (by repeat (first | (with_reducible first | exact HB.out | apply below_alloc | apply pw_below_drewN | apply below_drew1) | exact HB.out)) hb); clear HO_7; clear HO_9; clear HO_15; clear HB; have HO_7 := n0_; have HO_9 := n1_; have HO_15 := n2_; have HO443 := n3_; have HB := n4_; clear n0_ n1_ n2_ n3_ n4_; (try clear hb); (try clear hb2); (try clear hk); (try clear hi); (try clear ho0); obtain ⟨Ao77, co77, eo77⟩ := Kd.R_slice HO_15.out; subst eo77; obtain ⟨Ao78, co78, eo78⟩ := Kd.R_slice HO443.out; subst eo78)))
                            go_ret
                            exact ⟨by first | rfl | (simp [errW_none, errW_some] <;> rfl) | (simp [*, errW_none, errW_some] <;> rfl), by repeat (first | (with_reducible first | exact HB.out | apply below_alloc | apply pw_below_drewN | apply below_drew1) | exact HB.out)⟩
                        · rw [if_neg c43] at H
                          have c43b0 : ((t438.length : Int) == t421) = false := beq_eq_false_iff_ne.mpr c43
                          have c43b1 : ((t438.length : Int) != t421) = true := bne_iff_ne.mpr c43
                          obtain rfl := Option.some.inj H
                          go_wp2_with (first | (go_at_call 22; (with_reducible refine (graph_Reach.calls k3 t421 _ _ t422 x16_3 t441 _ ?side1 ?side2 A42.out).mono ?_); (case side1 => repeat (first | exact (Kd.R_reads' HO_7.out).2.2 | (with_reducible refine Kd.C_alloc ?_ _) | (with_reducible refine Kd.C_drewN ?_ _) | (with_reducible refine Kd.C_drew ?_))); (case side2 => exact (Kd.R_reads' HO_7.out).2.1); rintro e w79 ⟨v442, rfl, ho0, hb⟩; have n0_ := Aside0.mk (Kd.R_below (by (with_reducible repeat (first | apply Kd.R_alloc | apply Kd.R_drewN | apply Kd.R_drew)); exact HO_7.out) hb); have n1_ := Aside0.mk (Kd.R_below (by (with_reducible repeat (first | apply Kd.R_alloc | apply Kd.R_drewN | apply Kd.R_drew)); exact HO_9.out) hb); have n2_ := Aside0.mk (Kd.R_elder' (by (with_reducible repeat (first | apply Kd.R_alloc | apply Kd.R_drewN | apply Kd.R_drew)); exact HO_15.out) (Kd.R_base ho0) hb); have n3_ := Aside0.mk (Kd.R_lower (Kd.R_new' ho0 (Kd.R_lt (by (with_reducible repeat (first | apply Kd.R_alloc | apply Kd.R_drewN | apply Kd.R_drew)); exact HO_15.out))) (below_size (by repeat (first | (with_reducible first | exact HB.out | apply below_alloc | apply pw_below_drewN | apply below_drew1) | exact HB.out)))); have n4_ := Aside0.mk (below_step (by repeat (first | (with_reducible first | exact HB.out | apply below_alloc | apply pw_below_drewN | apply below_drew1) | exact HB.out)) hb); clear HO_7; clear HO_9; clear HO_15; clear HB; have HO_7 := n0_; have HO_9 := n1_; have HO_15 := n2_; have HO443 := n3_; have HB := n4_; clear n0_ n1_ n2_ n3_ n4_; (try clear hb); (try clear hb2); (try clear hk); (try clear hi); (try clear ho0); obtain ⟨Ao80, co80, eo80⟩ := Kd.R_slice HO_15.out; subst eo80))
                          repeat (go_quiet (first | (go_at_call 22; (with_reducible refine (graph_Reach.calls k3 t421 _ _ t422 x16_3 t441 _ ?side1 ?side2 A42.out).mono ?_); (case side1 => repeat (first | exact (Kd.R_reads' HO_7.out).2.2 | (with_reducible refine Kd.C_alloc ?_ _) | (with_reducible refine Kd.C_drewN ?_ _) | (with_reducible refine Kd.C_drew ?_))); (case side2 => exact (Kd.R_reads' HO_7.out).2.1); rintro e w79 ⟨v442, rfl, ho0, hb⟩; have n0_ := Aside0.mk (Kd.R_below (by (with_reducible repeat (first | apply Kd.R_alloc | apply Kd.R_drewN | apply Kd.R_drew)); exact HO_7.out) hb); have n1_ := Aside0.mk (Kd.R_below (by (with_reducible repeat (first | apply Kd.R_alloc | apply Kd.R_drewN | apply Kd.R_drew)); exact HO_9.out) hb); have n2_ := Aside0.mk (Kd.R_elder' (by (with_reducible repeat (first | apply Kd.R_alloc | apply Kd.R_drewN | apply Kd.R_drew)); exact HO_15.out) (Kd.R_base ho0) hb); have n3_ := Aside0.mk (Kd.R_lower (Kd.R_new' ho0 (Kd.R_lt (by (with_reducible repeat (first | apply Kd.R_alloc | apply Kd.R_drewN | apply Kd.R_drew)); exact HO_15.out))) (below_size (by repeat (first | (with_reducible first | exact HB.out | apply below_alloc | apply pw_below_drewN | apply below_drew1) | exact HB.out)))); have n4_ := Aside0.mk (below_step (by repeat (first | (with_reducible first | exact HB.out | apply below_alloc | apply pw_below_drewN | apply below_drew1) | exact HB.out)) hb); clear HO_7; clear HO_9; clear HO_15; clear HB; have HO_7 := n0_; have HO_9 := n1_; have HO_15 := n2_; have HO443 := n3_; have HB := n4_; clear n0_ n1_ n2_ n3_ n4_; (try clear hb); (try clear hb2); (try clear hk); (try clear hi); (try clear ho0); obtain ⟨Ao80, co80, eo80⟩ := Kd.R_slice HO_15.out; subst eo80)); try go_wp2_with (first | (go_at_call 22; (with_reducible refine (graph_Reach.calls k3 t421 _ _ t422 x16_3 t441 _ ?side1 ?side2 A42.out).mono ?_); (case side1 => repeat (first | exact (Kd.R_reads' HO_7.out).2.2 | (with_reducible refine Kd.C_alloc ?_ _) | (with_reducible refine Kd.C_drewN ?_ _) | (with_reducible refine Kd.C_drew ?_))); (case side2 => exact (Kd.R_reads' HO_7.out).2.1); rintro e w79 ⟨v442, rfl, ho0, hb⟩; have n0_ := Aside0.mk (Kd.R_below (by (with_reducible repeat (first | apply Kd.R_alloc | apply Kd.R_drewN | apply Kd.R_drew)); exact HO_7.out) hb); have n1_ := Aside0.mk (Kd.R_below (by (with_reducible repeat (first | apply Kd.R_alloc | apply Kd.R_drewN | apply Kd.R_drew)); exact HO_9.out) hb); have n2_ := Aside0.mk (Kd.R_elder' (by (with_reducible repeat (first | apply Kd.R_alloc | apply Kd.R_drewN | apply Kd.R_drew)); exact HO_15.out) (Kd.R_base ho0) hb); have n3_ := Aside0.mk (Kd.R_lower (Kd.R_new' ho0 (Kd.R_lt (by (with_reducible repeat (first | apply Kd.R_alloc | apply Kd.R_drewN | apply Kd.R_drew)); exact HO_15.out))) (below_size (by repeat (first | (with_reducible first | exact HB.out | apply below_alloc | apply pw_below_drewN | apply below_drew1) | exact HB.out)))); have n4_ := Aside0.mk (below_step (by repeat (first | (with_reducible first | exact HB.out | apply below_alloc | apply pw_below_drewN | apply below_drew1) | exact HB.out)) hb); clear HO_7; clear HO_9; clear HO_15; clear HB; have HO_7 := n0_; have HO_9 := n1_; have HO_15 := n2_; have HO443 := n3_; have HB := n4_; clear n0_ n1_ n2_ n3_ n4_; (try clear hb); (try clear hb2); (try clear hk); (try clear hi); (try clear ho0); obtain ⟨Ao80, co80, eo80⟩ := Kd.R_slice HO_15.out; subst eo80)))
                          go_ret
                          exact ⟨by first | rfl | (simp [errW_none, errW_some] <;> rfl) | (simp [*, errW_none, errW_some] <;> rfl), by repeat (first | (with_reducible first | exact HB.out | apply below_alloc | apply pw_below_drewN | apply below_drew1) | exact HB.out)⟩
                      · rw [if_neg c41] at H
                        have c41b0 : decide (x16_3 < t421) = false := decide_eq_false c41
                        clear c41
                        have H' := Aside0.mk H
                        clear H
                        go_wp2
                        repeat (go_quiet (fail); try go_wp2)
                        go_roundg k3
                        case measure => have := HK1.out; have := HK2.out; have := HK3.out; omega
                        case rel => exact ⟨(wrap64 (x14_2 + 1)), (by first | rfl | (simp; done) | (simp [*]; done)), H', ⟨by have := HK1.out; have := HK2.out; have := HK3.out; omega⟩, ⟨by (with_reducible repeat (first | apply Kd.R_alloc | apply Kd.R_drewN | apply Kd.R_drew)); exact HO_7.out⟩, ⟨by (with_reducible repeat (first | apply Kd.R_alloc | apply Kd.R_drewN | apply Kd.R_drew)); exact HO_9.out⟩, ⟨by repeat (first | (with_reducible first | exact HB.out | apply below_alloc | apply pw_below_drewN | apply below_drew1) | exact HB.out)⟩⟩
                · rw [if_neg c38] at H
                  have c38b0 : decide (x14_2 < t421) = false := decide_eq_false c38
                  clear c38
                  by_cases c81 : t420 = true
                  · subst c81
                    have H1 : (some (x10_1 == t421)) = some r := by rw [if_pos rfl] at H; exact H
                    clear H
                    have H := H1
                    clear H1
                    obtain rfl := Option.some.inj H
                    go_wp2
                    repeat (go_quiet (fail); try go_wp2)
                    go_ret
                    exact ⟨by first | rfl | (simp [errW_none, errW_some] <;> rfl) | (simp [*, errW_none, errW_some] <;> rfl), by repeat (first | (with_reducible first | exact HB.out | apply below_alloc | apply pw_below_drewN | apply below_drew1) | exact HB.out)⟩
                  · replace c81 := Bool.eq_false_iff.mpr c81
                    subst c81
                    have H1 : (some false) = some r := by rw [if_neg (show ¬ (false = true) by decide)] at H; exact H
                    clear H
                    have H := H1
                    clear H1
                    obtain rfl := Option.some.inj H
                    go_wp2
                    repeat (go_quiet (fail); try go_wp2)
                    go_ret
                    exact ⟨by first | rfl | (simp [errW_none, errW_some] <;> rfl) | (simp [*, errW_none, errW_some] <;> rfl), by repeat (first | (with_reducible first | exact HB.out | apply below_alloc | apply pw_below_drewN | apply below_drew1) | exact HB.out)⟩
    · rw [if_neg c7] at H
      exact absurd H (by simp)
  · rw [if_neg c6] at H
    exact absurd H (by simp)

end Go.Proofs.Ytngmdccheaidkaa.Pr
