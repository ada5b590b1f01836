/- Texts of the seat, without what this claim does not use. -/
import Derived.Test.YtngmdccheaidkaaTF
import Derived.Test.YtngmdccheaidkaaTGClean
-- printed by this session's own turn of print (wip/tools/mkprint.py)
namespace Go.Proofs.Ytngmdccheaidkaa.Pr
open Go.RowKit Go.Proofs.YtngmdccheaidkaaW.PrintWords Go.Proofs.YtngmdccheaidkaaW.PrintLast Go.Proofs.YtngmdccheaidkaaW.PrintMore
attribute [local go_sem] max2_int min2_int max_two min_two max_three min_three max_four min_four   -- for this text's walks alone
set_option linter.unusedVariables false
set_option linter.unusedSimpArgs false

/-! ### graph_nexts: function 45 -/
def graph_nexts.l0 : Nat → List (List Int) → List (S27) → Int → Int → Option ((List (List Int)) × Bool)
  | 0, _, _, _, _ => none
  | k + 1, x8, x21, x22, x23 => if x23 < x22 then (if 0 ≤ x23 then (if x23 < (x21.length : Int) then (if 0 ≤ ((rd_T27 x21 x23).f0) then (if ((rd_T27 x21 x23).f0) < (x8.length : Int) then (if (rd_L1 x8 ((rd_T27 x21 x23).f0)).length < 17592186044416 then (graph_nexts.l0 k (x8.set (((rd_T27 x21 x23).f0) : Int).toNat ((rd_L1 x8 ((rd_T27 x21 x23).f0)) ++ [(rd_T27 x21 x23).f1])) x21 x22 (wrap64 (x23 + 1))) else (none)) else (none)) else (none)) else (none)) else (none)) else (some (x8, true))
def graph_nexts.f (k : Nat) (a0 : Int) (l1 : List (S27)) : Option ((List (List Int)) × Bool) := (graph_Clean.f a0 l1).bind fun bt122 => (if bt122.2 = 0 then (if 0 ≤ a0 then (if (a0 : Int).toNat ≤ 11728124029610 then (graph_nexts.l0 k (List.replicate (a0 : Int).toNat []) bt122.1 (bt122.1.length : Int) 0) else (none)) else (none)) else (some (([] : List (List Int)), false)))
theorem graph_nexts.mono_l : ∀ k, (∀ y0 y1 y2 y3, LeO (graph_nexts.l0 k y0 y1 y2 y3) (graph_nexts.l0 (k + 1) y0 y1 y2 y3))
  | 0 => fun _ _ _ _ r h => by simp [graph_nexts.l0] at h
  | k + 1 => by
    have ih0 := graph_nexts.mono_l k
    · intro y0 y1 y2 y3
      unfold graph_nexts.l0
      repeat' first
      | (with_reducible exact ih0 _ _ _ _)
      | (with_reducible exact LeO.refl _)
      | (with_reducible exact LeO.none _)
      | (with_reducible refine LeO.ite ?_ ?_)
      | (with_reducible refine LeO.bind ?_ (fun _ => ?_))
      | exact ih0 _ _ _ _
      | exact LeO.none _
      | refine LeO.ite ?_ ?_
      | refine LeO.bind ?_ (fun _ => ?_)
theorem graph_nexts.mono : ∀ a0 a1 k, LeO (graph_nexts.f k a0 a1) (graph_nexts.f (k + 1) a0 a1) := by
  intro a0 a1 k
  have ih0 := graph_nexts.mono_l k
  unfold graph_nexts.f
  repeat' first
      | (with_reducible exact ih0 _ _ _ _)
      | (with_reducible exact LeO.refl _)
      | (with_reducible exact LeO.none _)
      | (with_reducible refine LeO.ite ?_ ?_)
      | (with_reducible refine LeO.bind ?_ (fun _ => ?_))
      | exact ih0 _ _ _ _
      | exact LeO.none _
      | refine LeO.ite ?_ ?_
      | refine LeO.bind ?_ (fun _ => ?_)
def graph_nexts.T8 : Bool × List (List Nat × List Nat) := (true, [([], []), ([], []), ([1], [1]), ([], []), ([], []), ([4], [4]), ([3, 5], [3, 5]), ([6], [6]), ([], []), ([8], [8]), ([9], [9]), ([7, 10], [7, 10]), ([0, 2, 0, 1, 2, 3, 4, 5, 6, 7, 8, 9, 10, 11], [0, 2]), ([12, 11, 11, 0, 1, 2, 3, 4, 5, 6, 7, 8, 9, 10, 11], [11, 12])])
def graph_nexts.B8 : List Nat := [0, 0, 2, 0, 0, 16, 56, 120, 0, 256, 768, 2040, 4095, 8191]
theorem graph_nexts.tab8 : rtab .any (opsOf Try.f45 8) = graph_nexts.T8 := by kernel_rfl
theorem graph_nexts.bits8 : waitsOk graph_nexts.T8.2 graph_nexts.B8 = true := by kernel_rfl
set_option maxHeartbeats 8000000 in
set_option maxRecDepth 100000 in
theorem graph_nexts.calls (k : Nat) (a0 : Int) (A1 : Option Addr) (c1 : Nat) (l1 : List (S27)) (r1 : List (List Int)) (r2 : Bool) (w : World) (hr1 : Kd.C k27 w A1 l1.length l1) (hc1 : l1.length ≤ c1) (h : graph_nexts.f k a0 l1 = some (r1, r2)) :
    Calls Try.prog 45 #[.int .i64 a0, .slice A1 l1.length c1] w fun e w' => ∃ v0_ : Value, e = .returned (.tuple #[v0_, .bool r2]) ∧ Kd.S (Kd.slice 3 (Kd.int .i64)) 35 w' w.heap.size (fun _ => True) v0_ r1 ∧ Below w.heap.size w w' := by
  have hu27 := Try.underlying27
  have HR1 := Aside0.mk hr1
  have HC1 := Aside0.mk hc1
  clear hr1 hc1
  have HB := Aside0.mk (Below.refl w.heap.size w)
  have H : ((graph_Clean.f a0 l1).bind fun bt122 => (if bt122.2 = 0 then (if 0 ≤ a0 then (if (a0 : Int).toNat ≤ 11728124029610 then (graph_nexts.l0 k (List.replicate (a0 : Int).toNat []) bt122.1 (bt122.1.length : Int) 0) else (none)) else (none)) else (some (([] : List (List Int)), false)))) = some (r1, r2) := h
  clear h
  replace H := Option.bind_eq_some_iff.mp H
  obtain ⟨⟨t122, t123⟩, A30, H⟩ := H
  replace H : (if t123 = 0 then (if 0 ≤ a0 then (if (a0 : Int).toNat ≤ 11728124029610 then (graph_nexts.l0 k (List.replicate (a0 : Int).toNat []) t122 (t122.length : Int) 0) else (none)) else (none)) else (some (([] : List (List Int)), false))) = some (r1, r2) := H
  have A3 := Aside0.mk A30
  clear A30
  by_cases c4 : t123 = 0
  · rw [if_pos c4] at H
    have c4b0 : (t123 == 0) = true := beq_iff_eq.mpr c4
    have c4b1 : (t123 != 0) = false := bne_eq_false_iff_eq.mpr c4
    clear c4
    by_cases c5 : 0 ≤ a0
    · rw [if_pos c5] at H
      have c5b0 := eq_true c5
      have c5b1 : decide (0 ≤ a0) = true := decide_eq_true c5
      clear c5
      by_cases c6 : (a0 : Int).toNat ≤ 11728124029610
      · rw [if_pos c6] at H
        have c6b0 := eq_true c6
        have c6b1 : decide ((a0 : Int).toNat ≤ 11728124029610) = true := decide_eq_true c6
        clear c6
        obtain ⟨y126, hy126⟩ : ∃ y_ : List (List Int), y_ = (List.replicate (a0 : Int).toNat []) := ⟨_, rfl⟩
        replace H : (graph_nexts.l0 k y126 t122 (t122.length : Int) 0) = some (r1, r2) := by first | (rw [hy126]; with_reducible exact H) | (have H2_ := (Option.bind_some _ _).symm.trans H; rw [hy126]; with_reducible exact H2_) | (have H2_ := (Option.bind_some _ _).symm.trans H; with_reducible exact H2_) | with_reducible exact H | (rw [hy126]; exact H) | exact H
        have Ny126 := Aside0.mk hy126
        clear hy126
        have H' := Aside0.mk H
        clear H
        go_enter Try.func45, Try.ntmps45
        go_wp2_with (first | ((with_reducible refine gate_callee (f := 16) rfl ?_); refine goesL_ (some 14) rfl rfl Try.func16 (by kernel_rfl) rfl #[.int .i64 a0, .slice A1 l1.length c1] rfl (by (try simp only [List.map_toArray, List.map_cons, List.map_nil]); first | done | rfl | (simp only [List.length_drop, List.length_take]; rfl)) ?_; (with_reducible refine (graph_Clean.calls a0 _ _ l1 t122 t123 _ ?side1 ?side2 A3.out).mono ?_); (case side1 => repeat (first | exact HR1.out | (with_reducible refine Kd.C_alloc ?_ _) | (with_reducible refine Kd.C_drewN ?_ _) | (with_reducible refine Kd.C_drew ?_))); (case side2 => exact HC1.out); rintro e w7 ⟨v124, rfl, ho0, hb⟩; refine ⟨_, rfl, ?_⟩; have n0_ := Aside0.mk (Kd.R_lower ho0 (below_size (by repeat (first | (with_reducible first | exact HB.out | apply below_alloc | apply pw_below_drewN | apply below_drew1) | exact HB.out)))); have n1_ := Aside0.mk (below_step (by repeat (first | (with_reducible first | exact HB.out | apply below_alloc | apply pw_below_drewN | apply below_drew1) | exact HB.out)) hb); clear HB; have HO125 := n0_; have HB := n1_; clear n0_ n1_; (try clear hb); (try clear hb2); (try clear hk); (try clear hi); (try clear ho0)) | ((with_reducible refine gate_dst (N := 20) rfl ?_); refine Kd.S_make (Kd.slice 3 (Kd.int .i64)) _ 35 rfl (N := 20) rfl 32 _ _ rfl a0 rfl rfl Try.underlying32 (.slice none 0 0) 24 info35 rfl (by decide) (by omega) [] (ok := fun _ => True) (okp := fun _ => True) ⟨_, rfl, Kd.R_nil _ _ _ _ _⟩ (fun _ hk => hk) trivial (of_decide_eq_true (by first | (with_reducible assumption) | assumption)) (Nat.le_trans (Nat.mul_le_mul_right _ (of_decide_eq_true (by first | (with_reducible assumption) | assumption) : a0.toNat ≤ 11728124029610)) (by omega)) (Below.refl _ _) (Nat.le_refl _) ?_; intro v127 w8 ho9 hb hg_ hnew_; clear hg_ hnew_; (first | rw [← Ny126.out] at ho9 | (simp only [Int.reduceToNat] at ho9; rw [← Ny126.out] at ho9)); have n0_ := Aside0.mk (Kd.R_below (by (with_reducible repeat (first | apply Kd.R_alloc | apply Kd.R_drewN | apply Kd.R_drew)); exact HO125.out) hb); have n1_ := Aside0.mk (Kd.S_lower ho9 (below_size (by repeat (first | (with_reducible first | exact HB.out | apply below_alloc | apply pw_below_drewN | apply below_drew1) | exact HB.out)))); have n2_ := Aside0.mk (below_step (by repeat (first | (with_reducible first | exact HB.out | apply below_alloc | apply pw_below_drewN | apply below_drew1) | exact HB.out)) hb); clear HO125; clear HB; have HO125 := n0_; have HO128 := n1_; have HB := n2_; clear n0_ n1_ n2_; clear hb ho9; obtain ⟨Ao10, co10, eo10⟩ := Kd.R_slice HO125.out; subst eo10))
        go_loopg [23] k (fun kq v23 w' => ∃ (x8_1 : List (List Int)) (x23_1 : Int), v23 = .int .i64 x23_1 ∧ Aside0 (graph_nexts.l0 kq x8_1 t122 (t122.length : Int) x23_1 = some (r1, r2)) ∧ Aside0 (kq ≤ k) ∧ Aside0 (Kd.S (Kd.slice 3 (Kd.int .i64)) 35 w' w.heap.size (fun _ => True) v127 x8_1) ∧ Aside0 (Kd.R k27 27 w' w.heap.size (fun _ => True) (.slice Ao10 t122.length co10) t122) ∧ Aside0 (Below w.heap.size w w'))
        case atStart => exact ⟨(y126), (0), (by first | rfl | (simp; done) | (simp [*]; done)), H', ⟨Nat.le_refl _⟩, ⟨by (with_reducible repeat (first | apply Kd.S_alloc | apply Kd.S_drewN | apply Kd.S_drew)); exact HO128.out⟩, ⟨by (with_reducible repeat (first | apply Kd.R_alloc | apply Kd.R_drewN | apply Kd.R_drew)); exact HO125.out⟩, ⟨by repeat (first | (with_reducible first | exact HB.out | apply below_alloc | apply pw_below_drewN | apply below_drew1) | exact HB.out)⟩⟩
        case round =>
          clear H'
          try clear c1
          try clear p2
          try clear c4
          try clear c4b0
          try clear c4b1
          try clear c5
          try clear c5b0
          try clear c5b1
          try clear c6
          try clear c6b0
          try clear c6b1
          obtain ⟨x8_1, x23_1, rfl, HA, HK1, HO_8, HO_21, HB⟩ := hrel
          cases gk with
          | zero => exact absurd HA.out (by simp [graph_nexts.l0])
          | succ k1 =>
            have H := HA.out
            clear HA
            simp only [graph_nexts.l0] at H
            by_cases c11 : x23_1 < (t122.length : Int)
            · rw [if_pos c11] at H
              have c11b0 : decide (x23_1 < (t122.length : Int)) = true := decide_eq_true c11
              clear c11
              by_cases c12 : 0 ≤ x23_1
              · rw [if_pos c12] at H
                have c12b0 : decide (0 ≤ x23_1) = true := decide_eq_true c12
                clear c12
                by_cases c13 : x23_1 < (t122.length : Int)
                · rw [if_pos c13] at H
                  have c13b0 : decide (x23_1 < (t122.length : Int)) = true := decide_eq_true c13
                  clear c13
                  by_cases c14 : 0 ≤ ((rd_T27 t122 x23_1).f0)
                  · rw [if_pos c14] at H
                    have c14b0 : decide (0 ≤ ((rd_T27 t122 x23_1).f0)) = true := decide_eq_true c14
                    clear c14
                    by_cases c15 : ((rd_T27 t122 x23_1).f0) < (x8_1.length : Int)
                    · rw [if_pos c15] at H
                      have c15b0 : decide (((rd_T27 t122 x23_1).f0) < (x8_1.length : Int)) = true := decide_eq_true c15
                      clear c15
                      by_cases c16 : (rd_L1 x8_1 ((rd_T27 t122 x23_1).f0)).length < 17592186044416
                      · rw [if_pos c16] at H
                        have LMc16 := Aside0.mk c16
                        clear c16
                        obtain ⟨y132, hy132⟩ : ∃ y_ : List Int, y_ = ((rd_L1 x8_1 ((rd_T27 t122 x23_1).f0)) ++ [(rd_T27 t122 x23_1).f1]) := ⟨_, rfl⟩
                        replace H : (graph_nexts.l0 k1 (x8_1.set (((rd_T27 t122 x23_1).f0) : Int).toNat y132) t122 (t122.length : Int) (wrap64 (x23_1 + 1))) = some (r1, r2) := by first | (rw [hy132]; with_reducible exact H) | (have H2_ := (Option.bind_some _ _).symm.trans H; rw [hy132]; with_reducible exact H2_) | (have H2_ := (Option.bind_some _ _).symm.trans H; with_reducible exact H2_) | with_reducible exact H | (rw [hy132]; exact H) | exact H
                        have Ny132 := Aside0.mk hy132
                        clear hy132
                        obtain ⟨y135, hy135⟩ : ∃ y_ : List (List Int), y_ = (x8_1.set (((rd_T27 t122 x23_1).f0) : Int).toNat y132) := ⟨_, rfl⟩
                        replace H : (graph_nexts.l0 k1 y135 t122 (t122.length : Int) (wrap64 (x23_1 + 1))) = some (r1, r2) := by first | (rw [hy135]; with_reducible exact H) | (have H2_ := (Option.bind_some _ _).symm.trans H; rw [hy135]; with_reducible exact H2_) | (have H2_ := (Option.bind_some _ _).symm.trans H; with_reducible exact H2_) | with_reducible exact H | (rw [hy135]; exact H) | exact H
                        have Ny135 := Aside0.mk hy135
                        clear hy135
                        have H' := Aside0.mk H
                        clear H
                        have p129 : 0 ≤ (x23_1 : Int) := of_decide_eq_true (by first | (with_reducible assumption) | assumption)
                        have q129 : x23_1 < (t122.length : Int) := of_decide_eq_true (by first | (with_reducible assumption) | assumption)
                        obtain ⟨ad129, e129, hx129_0, hx129_1⟩ := at_T27 (Kd.R_reads' HO_21.out).2.2 x23_1 p129 q129
                        cases e129
                        replace p129 := eq_true p129
                        replace q129 := eq_true q129
                        try go_wp2_with (first | ((with_reducible refine gate_dst (N := 10) rfl ?_); refine box_event ?hg (N := 10) ?hd (cs := #[.int .i64 0, .int .i64 0]) (t := 27) ?hr ?_; (case hd => rfl); (case hg => rfl); (case hr => first | (go_simp; done) | (go_simp; rfl)); intro gb130 hg w18 hbox hb; have n0_ := Aside0.mk (Kd.S_below (by (with_reducible repeat (first | apply Kd.S_alloc | apply Kd.S_drewN | apply Kd.S_drew)); exact HO_8.out) hb); have n1_ := Aside0.mk (Kd.R_below (Kd.R_elderB (by (with_reducible repeat (first | apply Kd.R_alloc | apply Kd.R_drewN | apply Kd.R_drew)); exact HO_21.out) gb130 (Nat.le_of_eq hg.symm)) hb); have n2_ := Aside0.mk (below_step (by repeat (first | (with_reducible first | exact HB.out | apply below_alloc | apply pw_below_drewN | apply below_drew1) | exact HB.out)) hb); have n3_ := Aside0.mk (hbox); have n4_ := Aside0.mk ((by rw [hg]; exact (below_size (by repeat (first | (with_reducible first | exact HB.out | apply below_alloc | apply pw_below_drewN | apply below_drew1) | exact HB.out))) : w.heap.size ≤ gb130)); have n5_ := Aside0.mk ((by rw [hg]; exact (below_size (by repeat (first | (with_reducible first | exact HB.out | apply below_alloc | apply pw_below_drewN | apply below_drew1) | exact HB.out))) : w.heap.size ≤ gb130)); clear HO_8; clear HO_21; clear HB; have HO_8 := n0_; have HO_21 := n1_; have HB := n2_; have BK130 := n3_; have GW130 := n4_; have GE130 := n5_; clear n0_ n1_ n2_ n3_ n4_ n5_; clear hb hbox hg; have hcz19_0 : w18.cell? ⟨gb130, 0, none⟩ = some (.int .i64 0) := (blk_cell BK130.out 0).trans rfl; have hcz19_1 : w18.cell? ⟨gb130, 1, none⟩ = some (.int .i64 0) := (blk_cell BK130.out 1).trans rfl; have hfz19_0 := blk_frozen BK130.out 0; have hfz19_1 := blk_frozen BK130.out 1))
                        have n0_ : Aside0 (Kd.S (Kd.slice 3 (Kd.int .i64)) 35 ((w18.setCell ⟨gb130, 0, none⟩ (.int .i64 ((rd_T27 t122 x23_1).f0))).setCell ⟨gb130, 1, none⟩ (.int .i64 ((rd_T27 t122 x23_1).f1))) w.heap.size (fun _ => True) v127 x8_1) := ⟨by (with_reducible repeat (first | apply Kd.S_alloc | apply Kd.S_drewN | apply Kd.S_drew)); exact Kd.S_mono (Kd.S_far (p := ⟨gb130, 1, none⟩) (Kd.S_far (p := ⟨gb130, 0, none⟩) (Kd.S_types HO_8.out BK130.out (by decide)) (fun _ hk => hk.2) (.int .i64 ((rd_T27 t122 x23_1).f0))) (fun _ hk => hk.2) (.int .i64 ((rd_T27 t122 x23_1).f1))) (fun _ hk => trivial)⟩
                        have n1_ : Aside0 (Kd.R k27 27 ((w18.setCell ⟨gb130, 0, none⟩ (.int .i64 ((rd_T27 t122 x23_1).f0))).setCell ⟨gb130, 1, none⟩ (.int .i64 ((rd_T27 t122 x23_1).f1))) w.heap.size (fun k_ => k_ ≠ gb130) (.slice (some ad129) t122.length co10) t122) := ⟨by (with_reducible repeat (first | apply Kd.R_alloc | apply Kd.R_drewN | apply Kd.R_drew)); exact Kd.R_mono (Kd.R_far (p := ⟨gb130, 1, none⟩) (Kd.R_far (p := ⟨gb130, 0, none⟩) (Kd.R_mono HO_21.out (fun k_ hk => (⟨hk, hk.2⟩ : _ ∧ k_ ≠ gb130))) (fun _ hk => hk.2) (.int .i64 ((rd_T27 t122 x23_1).f0))) (fun _ hk => hk.2) (.int .i64 ((rd_T27 t122 x23_1).f1))) (fun _ hk => hk.1.2)⟩
                        have n2_ : Aside0 (((w18.setCell ⟨gb130, 0, none⟩ (.int .i64 ((rd_T27 t122 x23_1).f0))).setCell ⟨gb130, 1, none⟩ (.int .i64 ((rd_T27 t122 x23_1).f1))).heap[gb130]? = some (.cells #[.int .i64 ((rd_T27 t122 x23_1).f0), .int .i64 ((rd_T27 t122 x23_1).f1)] 27 (0, 0))) := ⟨by (with_reducible repeat (first | refine blk_drewN ?_ _ | refine blk_drew ?_ | refine blk_alloc ?_ _)); refine blk_put (cs := #[.int .i64 ((rd_T27 t122 x23_1).f0), .int .i64 0]) ?_ 1 _ rfl; (with_reducible repeat (first | refine blk_drewN ?_ _ | refine blk_drew ?_ | refine blk_alloc ?_ _)); refine blk_put (cs := #[.int .i64 0, .int .i64 0]) ?_ 0 _ rfl; (with_reducible repeat (first | refine blk_drewN ?_ _ | refine blk_drew ?_ | refine blk_alloc ?_ _)); exact BK130.out⟩
                        have n3_ : Aside0 (Below w.heap.size w ((w18.setCell ⟨gb130, 0, none⟩ (.int .i64 ((rd_T27 t122 x23_1).f0))).setCell ⟨gb130, 1, none⟩ (.int .i64 ((rd_T27 t122 x23_1).f1)))) := ⟨by repeat (first | (with_reducible first | exact HB.out | apply below_alloc | apply pw_below_drewN | apply below_drew1 | refine below_set ?_ GE130.out) | exact HB.out)⟩
                        (try clear HO_8)
                        (try clear HO_21)
                        (try clear BK130)
                        (try clear HB)
                        generalize ((w18.setCell ⟨gb130, 0, none⟩ (.int .i64 ((rd_T27 t122 x23_1).f0))).setCell ⟨gb130, 1, none⟩ (.int .i64 ((rd_T27 t122 x23_1).f1))) = w20 at n0_ n1_ n2_ n3_ ⊢
                        have HO_8 := n0_
                        have HO_21 := n1_
                        have BK130 := n2_
                        have HB := n3_
                        clear n0_ n1_ n2_ n3_
                        have n0_ := Aside0.mk (Kd.S_drew HO_8.out)
                        have n1_ := Aside0.mk (Kd.R_drew HO_21.out)
                        have n2_ := Aside0.mk (blk_drew BK130.out)
                        have n3_ := Aside0.mk (below_drew1 HB.out)
                        clear HO_8
                        clear HO_21
                        clear BK130
                        clear HB
                        have HO_8 := n0_
                        have HO_21 := n1_
                        have BK130 := n2_
                        have HB := n3_
                        clear n0_ n1_ n2_ n3_
                        obtain ⟨Ao22, co22, eo22⟩ := Kd.S_slice HO_8.out
                        (first | subst eo22 | (injection eo22 with f1_ f2_ f3_; have f4_ := f1_.symm; have f5_ := f3_.symm; clear f1_ f2_ f3_; subst f4_; subst f5_))
                        have p131 : 0 ≤ (((rd_T27 t122 x23_1).f0) : Int) := of_decide_eq_true (by first | (with_reducible assumption) | assumption)
                        have q131 : ((rd_T27 t122 x23_1).f0) < (x8_1.length : Int) := of_decide_eq_true (by first | (with_reducible assumption) | assumption)
                        obtain ⟨ad131, A131_0, c131_0, e131, hx131_0, hl131_0, hi131_0⟩ := at_L1 (Kd.S_reads' HO_8.out).2.2 ((rd_T27 t122 x23_1).f0) p131 q131
                        cases e131
                        obtain ⟨ce131, hce131, hMe131, hcc131⟩ := Kd.S_get HO_8.out [] ((rd_T27 t122 x23_1).f0) p131 (by first | exact q131 | exact of_decide_eq_true (by first | (with_reducible assumption) | assumption) | (have e_ := (Kd.S_reads' HO_8.out).1; omega))
                        obtain ⟨ve131_0, rfl, ge131_0⟩ := hMe131
                        have hv131_0 := hcc131 0 _ rfl
                        rw [Nat.add_zero, show ((Kd.slice 3 (Kd.int .i64))).sz = 1 from rfl, Nat.mul_one] at hv131_0
                        replace hv131_0 := Option.some.inj (hv131_0.symm.trans hx131_0)
                        rw [hv131_0] at ge131_0
                        have HL131_0 := Aside0.mk (show Kd.R (Kd.int .i64) 3 _ _ _ _ (rd_L1 x8_1 ((rd_T27 t122 x23_1).f0)) from ge131_0)
                        clear hv131_0 ge131_0
                        have HX131_0 := Aside0.mk hx131_0
                        clear hcc131 hce131
                        have HR131_0 := Aside0.mk hi131_0
                        have HC131_0 := Aside0.mk hl131_0
                        clear hi131_0 hl131_0
                        replace p131 := eq_true p131
                        replace q131 := eq_true q131
                        obtain ⟨go23, co23, eo23, gb23, gl23, cl23, HG23⟩ := Kd.S_form HO_8.out (by have h_ : (((rd_T27 t122 x23_1).f0) : Int) < ((x8_1.length : Int) : Int) := of_decide_eq_true (by first | (with_reducible assumption) | assumption); have h2_ : 0 ≤ (((rd_T27 t122 x23_1).f0) : Int) := (of_decide_eq_true (by first | (with_reducible assumption) | assumption)); omega)
                        (first | cases eo23 | (injection eo23 with ea_ en_ ec_; (first | subst ea_ | (injection ea_ with ea_; subst ea_)); subst ec_; clear en_))
                        have GB23 := Aside0.mk gb23
                        have GG23 := Aside0.mk HG23
                        clear gb23 gl23 HG23
                        (first | simp only [add_plain] at hx131_0 | skip)
                        obtain ⟨oki23, ce23, hcl23, hM23, hcc23, _, _, hH23⟩ := Kd.S_elem HO_8.out [] (((rd_T27 t122 x23_1).f0) : Int) (of_decide_eq_true (by first | (with_reducible assumption) | assumption)) (by have h_ : (((rd_T27 t122 x23_1).f0) : Int) < ((x8_1.length : Int) : Int) := of_decide_eq_true (by first | (with_reducible assumption) | assumption); first | exact h_ | (have e_ := (Kd.S_reads' HO_8.out).1; omega) | simpa using h_)
                        obtain ⟨ve23_0, rfl, ge23_0⟩ := hM23
                        have hv23 := hcc23 0 _ rfl
                        have hX23 := HX131_0.out
                        (try simp only [add_plain] at hX23)
                        (try simp only [Nat.add_zero] at hv23)
                        (try rw [show ((Kd.slice 3 (Kd.int .i64))).sz = 1 from rfl, Nat.mul_one] at hv23)
                        replace hv23 := Option.some.inj (hv23.symm.trans hX23)
                        subst hv23
                        clear hX23 hcc23 hcl23
                        have UU23 := Aside0.mk (show Kd.R (Kd.int .i64) 3 _ w.heap.size oki23 (.slice A131_0 (rd_L1 x8_1 ((rd_T27 t122 x23_1).f0)).length c131_0) (rd_L1 x8_1 ((rd_T27 t122 x23_1).f0)) from ge23_0)
                        have HH23 := Aside0.mk hH23
                        have HN23 := Aside0.mk (Kd.S_reads' HO_8.out).1
                        clear hH23 ge23_0
                        refine start_ (n := 14) (S := fun w' => w'.cell? ⟨gb130, 0, none⟩ = some (.int .i64 ((rd_T27 t122 x23_1).f0)) ∧ w'.cell? ⟨gb130, 1, none⟩ = some (.int .i64 ((rd_T27 t122 x23_1).f1)) ∧ w'.cell? ⟨go23, ((rd_T27 t122 x23_1).f0).toNat, none⟩ = some (.slice A131_0 (rd_L1 x8_1 ((rd_T27 t122 x23_1).f0)).length c131_0)) (ds := [13]) #[false, false, false, false, false, false, false, false, false, false, false, false, false, false] (by kernel_rfl) rfl rfl ⟨(blk_cell BK130.out 0).trans rfl, (blk_cell BK130.out 1).trans rfl, hx131_0⟩ (fun hHeld => ?_); refine with_tabW graph_nexts.tab8 graph_nexts.bits8 (fun HT_ HW_ => ?_)
                        generalize w20.drew = w21 at HO_8 HO_21 BK130 HB GG23 HH23 HL131_0 HR131_0 HX131_0 UU23 hx131_0 hHeld ⊢
                        refine pure_ (i := 0) (N := some 27) (v := ?_) (a' := ?_) #[true, false, false, false, false, false, false, false, false, false, false, false, false, false] rfl rfl (any_of HT_.out (by kernel_rfl)) (fun _ _ _ h => h) (Or.inl ⟨by rfl, ?_⟩) ?_ ?_
                        rotate_left
                        · intro w'
                          go_simp
                          with_reducible rfl
                        rotate_left
                        · simp only [Act.put, List.setIfInBounds_toArray, List.set_cons_zero, List.set_cons_succ, i64_w, i32_w]
                          rfl
                        refine pure_ (i := 1) (N := some 28) (v := ?_) (a' := ?_) #[true, true, false, false, false, false, false, false, false, false, false, false, false, false] rfl rfl (any_of HT_.out (by kernel_rfl)) (fun _ _ _ h => h) (Or.inl ⟨by rfl, ?_⟩) ?_ ?_
                        rotate_left
                        · intro w'
                          go_simp
                          with_reducible rfl
                        rotate_left
                        · simp only [Act.put, List.setIfInBounds_toArray, List.set_cons_zero, List.set_cons_succ, i64_w, i32_w]
                          rfl
                        refine pure_ (i := 3) (N := some 30) (v := ?_) (a' := ?_) #[true, true, false, true, false, false, false, false, false, false, false, false, false, false] rfl rfl (any_of HT_.out (by kernel_rfl)) (fun _ _ _ h => h) (Or.inl ⟨by rfl, ?_⟩) ?_ ?_
                        rotate_left
                        · intro w'
                          go_simp
                          with_reducible rfl
                        rotate_left
                        · simp only [Act.put, List.setIfInBounds_toArray, List.set_cons_zero, List.set_cons_succ, i64_w, i32_w]
                          rfl
                        refine pure_ (i := 4) (N := some 31) (v := ?_) (a' := ?_) #[true, true, false, true, true, false, false, false, false, false, false, false, false, false] rfl rfl (any_of HT_.out (by kernel_rfl)) (fun _ _ _ h => h) (Or.inl ⟨by rfl, ?_⟩) ?_ ?_
                        rotate_left
                        · intro w'
                          go_simp
                          with_reducible rfl
                        rotate_left
                        · simp only [Act.put, List.setIfInBounds_toArray, List.set_cons_zero, List.set_cons_succ, i64_w, i32_w]
                          rfl
                        refine pure_ (i := 8) (N := some 35) (v := ?_) (a' := ?_) #[true, true, false, true, true, false, false, false, true, false, false, false, false, false] rfl rfl (any_of HT_.out (by kernel_rfl)) (fun _ _ _ h => h) (Or.inl ⟨by rfl, ?_⟩) ?_ ?_
                        rotate_left
                        · intro w'
                          go_simp
                          with_reducible rfl
                        rotate_left
                        · simp only [Act.put, List.setIfInBounds_toArray, List.set_cons_zero, List.set_cons_succ, i64_w, i32_w]
                          rfl
                        refine take_ (i := 2) (N := some 29) (v := ?_) (a' := ?_) #[true, true, true, true, true, false, false, false, true, false, false, false, false, false] rfl rfl (take_ofW HT_.out HW_.out (by kernel_rfl)) (fun _ _ _ h => h) (Or.inl ⟨by rfl, ?_⟩) hHeld ?_ ?_
                        rotate_left
                        · rintro w' ⟨s0, s1, s2⟩
                          go_simp
                          with_reducible rfl
                        rotate_left
                        · simp only [Act.put, List.setIfInBounds_toArray, List.set_cons_zero, List.set_cons_succ, i64_w, i32_w]
                          rfl
                        refine take_ (i := 5) (N := some 32) (v := ?_) (a' := ?_) #[true, true, true, true, true, true, false, false, true, false, false, false, false, false] rfl rfl (take_ofW HT_.out HW_.out (by kernel_rfl)) (fun _ _ _ h => h) (Or.inl ⟨by rfl, ?_⟩) hHeld ?_ ?_
                        rotate_left
                        · rintro w' ⟨s0, s1, s2⟩
                          go_simp
                          with_reducible rfl
                        rotate_left
                        · simp only [Act.put, List.setIfInBounds_toArray, List.set_cons_zero, List.set_cons_succ, i64_w, i32_w]
                          rfl
                        refine pure_ (i := 6) (N := some 33) (v := ?_) (a' := ?_) #[true, true, true, true, true, true, true, false, true, false, false, false, false, false] rfl rfl (any_of HT_.out (by kernel_rfl)) (fun _ _ _ h => h) (Or.inl ⟨by rfl, ?_⟩) ?_ ?_
                        rotate_left
                        · intro w'
                          go_simp
                          with_reducible rfl
                        rotate_left
                        · simp only [Act.put, List.setIfInBounds_toArray, List.set_cons_zero, List.set_cons_succ, i64_w, i32_w]
                          rfl
                        refine take_ (i := 7) (N := some 34) (v := ?_) (a' := ?_) #[true, true, true, true, true, true, true, true, true, false, false, false, false, false] rfl rfl (take_ofW HT_.out HW_.out (by kernel_rfl)) (fun _ _ _ h => h) (Or.inl ⟨by rfl, ?_⟩) hHeld ?_ ?_
                        rotate_left
                        · rintro w' ⟨s0, s1, s2⟩
                          go_simp
                          with_reducible rfl
                        rotate_left
                        · simp only [Act.put, List.setIfInBounds_toArray, List.set_cons_zero, List.set_cons_succ, i64_w, i32_w]
                          rfl
                        refine take_ (i := 9) (N := some 36) (v := ?_) (a' := ?_) #[true, true, true, true, true, true, true, true, true, true, false, false, false, false] rfl rfl (take_ofW HT_.out HW_.out (by kernel_rfl)) (fun _ _ _ h => h) (Or.inl ⟨by rfl, ?_⟩) hHeld ?_ ?_
                        rotate_left
                        · rintro w' ⟨s0, s1, s2⟩
                          go_simp
                          with_reducible rfl
                        rotate_left
                        · simp only [Act.put, List.setIfInBounds_toArray, List.set_cons_zero, List.set_cons_succ, i64_w, i32_w]
                          rfl
                        refine one_ (i := 10) (N := some 37) #[true, true, true, true, true, true, true, true, true, true, true, false, false, false] rfl rfl (one_of HT_.out (by kernel_rfl)) (by decide) (fun K hK => ?_)
                        refine value_ (w1 := ?_) (v := ?_) (by rfl) rfl ?_ ?_
                        rotate_left 2
                        · go_simp
                          constructor
                          · rfl
                          · rfl
                        refine hK.out _ _ ⟨(blk_cell (blk_alloc BK130.out _) 0).trans rfl, (blk_cell (blk_alloc BK130.out _) 1).trans rfl, (World.cell?_alloc_lt _ _ _ (World.block_lt_of_cell? _ _ (hHeld.2.2))).trans (hHeld.2.2)⟩ (fun hHeld => ?_)
                        clear hK K
                        refine norm_ (a' := ?_) ?_ ?_
                        rotate_left
                        · show Act.put _ (some 37) _ = _
                          simp only [Act.put, List.setIfInBounds_toArray, List.set_cons_zero, List.set_cons_succ, i64_w, i32_w]
                          rfl
                        refine one_ (i := 11) (N := some 38) #[true, true, true, true, true, true, true, true, true, true, true, true, false, false] rfl rfl (one_of HT_.out (by kernel_rfl)) (by decide) (fun K hK => ?_)
                        refine Kd.R_append_step (Kd.int .i64) (w0 := w) w.heap.size (by rfl) (.tmp 34) (.tmp 37) 35 3 (.int .i64 0) 8 rfl Try.underlying35 info3 rfl (by decide) (by omega) (.slice A131_0 (rd_L1 x8_1 ((rd_T27 t122 x23_1).f0)).length c131_0) (rd_L1 x8_1 ((rd_T27 t122 x23_1).f0)) ((rd_T27 t122 x23_1).f1) [.int .i64 ((rd_T27 t122 x23_1).f1)] (fun k_ => oki23 k_ ∨ ((fun _ => True)) k_ ∧ w21.heap.size ≤ k_) (fun _ => False) rfl rfl ?aP (fun _ hk => hk.elim) ?aF ?aO ?aB ?aS ?aL ?_
                        (case aP => exact rfl)
                        (case aB => exact (by repeat (first | (with_reducible first | exact HB.out | apply below_alloc | apply pw_below_drewN | apply below_drew1 | refine below_set ?_ GE130.out) | exact HB.out)))
                        (case aF => exact (fun k_ hk => .inr ⟨trivial, hk⟩))
                        (case aO => exact (by (with_reducible repeat (first | apply Kd.R_alloc | apply Kd.R_drewN | apply Kd.R_drew)); exact Kd.R_mono UU23.out (fun _ hk => .inl hk)))
                        (case aS => exact (below_size (by repeat (first | (with_reducible first | exact HB.out | apply below_alloc | apply pw_below_drewN | apply below_drew1 | refine below_set ?_ GE130.out) | exact HB.out))))
                        (case aL => have := LMc16.out; omega)
                        intro v133 w24 ho hb hg hat
                        (first | have HS2_ := Go.Proofs.YtngmdccheaidkaaW.PrintWords.cell_grown hg (hHeld.2.2) (by first | (rw [add_block]; exact (fun e_ => ((HL131_0.out.1 _ e_.symm).2) rfl)) | (show some (Addr.add _ _).block ≠ _; rw [add_block]; exact (fun e_ => ((HL131_0.out.1 _ e_.symm).2) rfl)) | exact (fun e_ => ((HL131_0.out.1 _ e_.symm).2) rfl)) | have HS2_ := Go.Proofs.YtngmdccheaidkaaW.PrintWords.cell_grown hg (cell_unalloc (hHeld.2.2) (by first | (rw [add_block]; exact Kd.S_lt HO_8.out _ rfl) | (show (Addr.add _ _).block < _; rw [add_block]; exact Kd.S_lt HO_8.out _ rfl) | exact Kd.S_lt HO_8.out _ rfl)) (by first | (rw [add_block]; exact (fun e_ => ((HL131_0.out.1 _ e_.symm).2) rfl)) | (show some (Addr.add _ _).block ≠ _; rw [add_block]; exact (fun e_ => ((HL131_0.out.1 _ e_.symm).2) rfl)) | exact (fun e_ => ((HL131_0.out.1 _ e_.symm).2) rfl)))
                        rw [← Ny132.out] at ho
                        have n0_ := Aside0.mk (Kd.R_over' (v := (.slice A131_0 (rd_L1 x8_1 ((rd_T27 t122 x23_1).f0)).length c131_0)) (by (with_reducible repeat (first | apply Kd.R_alloc | apply Kd.R_drewN | apply Kd.R_drew)); exact HO_21.out) (Kd.R_typed HL131_0.out) (by decide) hg)
                        have n1_ := Aside0.mk (blk_grown (g := gb130) (o := .cells #[.int .i64 ((rd_T27 t122 x23_1).f0), .int .i64 ((rd_T27 t122 x23_1).f1)] 27 (0, 0)) (by (with_reducible repeat (first | refine blk_drewN ?_ _ | refine blk_drew ?_ | refine blk_alloc ?_ _)); exact BK130.out) hg (Kd.R_ne HL131_0.out BK130.out (by decide)))
                        have n2_ := Aside0.mk (hb)
                        have n3_ := Aside0.mk (Kd.H_grown (Kd.H_widen (by repeat (first | exact HH23.out | refine Kd.H_alloc ?_ _ | refine Kd.H_drewN ?_ _ | refine Kd.H_drew ?_))) hg (fun k_ e_ => .inl (UU23.out.1 k_ e_)))
                        have n4_ := Aside0.mk (ho)
                        clear HO_21
                        clear BK130
                        clear HB
                        clear HH23
                        clear HO_8
                        clear UU23
                        clear HL131_0
                        have HO_21 := n0_
                        have BK130 := n1_
                        have HB := n2_
                        have HH23 := n3_
                        have HO134 := n4_
                        clear n0_ n1_ n2_ n3_ n4_
                        clear ho hb hg hat
                        have p17 : 0 ≤ (((rd_T27 t122 x23_1).f0) : Int) := of_decide_eq_true (by first | (with_reducible assumption) | assumption)
                        have q17 : (((rd_T27 t122 x23_1).f0) : Int) < ((x8_1.length : Int) : Int) := of_decide_eq_true (by first | (with_reducible assumption) | assumption)
                        replace p17 := eq_true p17
                        replace q17 := eq_true q17
                        obtain ⟨Ao27, co27, eo27⟩ := Kd.R_slice HO134.out
                        (first | subst eo27 | (injection eo27 with f1_ f2_ f3_; have f4_ := f1_.symm; have f5_ := f3_.symm; clear f1_ f2_ f3_; subst f4_; subst f5_))
                        obtain ⟨_, _, hraw25, _, _, hcc25, _⟩ := Kd.H_raw HH23.out (of_decide_eq_true (by first | (with_reducible assumption) | assumption)) (by have h_ : (((rd_T27 t122 x23_1).f0) : Int) < ((x8_1.length : Int) : Int) := of_decide_eq_true (by first | (with_reducible assumption) | assumption); first | exact h_ | (have e_ := (HN23.out); omega) | simpa using h_)
                        obtain ⟨_, hfr25⟩ := Kd.H_at HH23.out (of_decide_eq_true (by first | (with_reducible assumption) | assumption)) (by have h_ : (((rd_T27 t122 x23_1).f0) : Int) < ((x8_1.length : Int) : Int) := of_decide_eq_true (by first | (with_reducible assumption) | assumption); first | exact h_ | (have e_ := (HN23.out); omega) | simpa using h_)
                        have hx25_0 := hcc25 0 _ rfl
                        have hf25_0 := hfr25 0
                        (try simp only [Nat.add_zero] at hx25_0 hf25_0)
                        (try rw [show ((Kd.slice 3 (Kd.int .i64))).sz = 1 from rfl, Nat.mul_one] at hx25_0)
                        (try rw [show ((Kd.slice 3 (Kd.int .i64))).sz = 1 from rfl, Nat.mul_one] at hf25_0)
                        have HP25 := Kd.S_seg0 HH23.out (of_decide_eq_true (by first | (with_reducible assumption) | assumption)) (by have h_ : (((rd_T27 t122 x23_1).f0) : Int) < ((x8_1.length : Int) : Int) := of_decide_eq_true (by first | (with_reducible assumption) | assumption); first | exact h_ | (have e_ := (HN23.out); omega) | simpa using h_) (seg := [.slice Ao27 y132.length co27]) (j := 0) (show 1 ≤ 1 from by decide) (x' := y132) (Kd.M_row HO134.out) (fun _ hk => hk)
                        (try simp only [show ((Kd.slice 3 (Kd.int .i64))).sz = 1 from rfl, Nat.mul_one, Nat.add_zero] at HP25)
                        clear hcc25 hfr25
                        have HNB130_go23 := Aside0.mk (show gb130 ≠ go23 from by have h_ := Kd.R_ne hraw25 BK130.out (by decide); intro e_; exact h_ (by rw [e_]; rfl))
                        have HS25 := HP25.1
                        rw [← Ny135.out] at HS25
                        have HQ25 := Aside0.mk HS25
                        obtain ⟨_, hgg25⟩ := Kd.R_typed hraw25 go23 rfl
                        have GG25_ := Aside0.mk hgg25
                        clear HP25 HS25 hgg25
                        refine hK.out _ _ ⟨(blk_cell BK130.out 0).trans rfl, (blk_cell BK130.out 1).trans rfl, HS2_⟩ (fun hHeld => ?_)
                        clear hK K
                        refine norm_ (a' := ?_) ?_ ?_
                        rotate_left
                        · show Act.put _ (some 38) _ = _
                          simp only [Act.put, List.setIfInBounds_toArray, List.set_cons_zero, List.set_cons_succ, i64_w, i32_w]
                          rfl
                        refine pure_ (i := 12) (N := some 39) (v := ?_) (a' := ?_) #[true, true, true, true, true, true, true, true, true, true, true, true, true, false] rfl rfl (any_of HT_.out (by kernel_rfl)) (fun _ _ _ h => h) (Or.inl ⟨by rfl, ?_⟩) ?_ ?_
                        rotate_left
                        · intro w'
                          go_simp
                          with_reducible rfl
                        rotate_left
                        · simp only [Act.put, List.setIfInBounds_toArray, List.set_cons_zero, List.set_cons_succ, i64_w, i32_w]
                          rfl
                        refine last_ (i := 13) (N := none) #[true, true, true, true, true, true, true, true, true, true, true, true, true, true] rfl rfl (one_of HT_.out (by kernel_rfl)) (by decide) (fun K hK => ?_)
                        refine skip_ (w1 := ?_) (by rfl) rfl ?_ ?_
                        rotate_left
                        · go_simp
                          rfl
                        refine hK.out _ _ ?_
                        clear hK K
                        refine done_ (done_of HT_.out (by kernel_rfl)) ?_
                        try go_wp2
                        go_roundg k1
                        case measure => have := HK1.out; omega
                        case rel => exact ⟨(y135), (wrap64 (x23_1 + 1)), (by first | rfl | (simp; done) | (simp [*]; done)), H', ⟨by have := HK1.out; omega⟩, ⟨by (with_reducible repeat (first | apply Kd.S_alloc | apply Kd.S_drewN | apply Kd.S_drew)); exact HQ25.out⟩, ⟨by (with_reducible repeat (first | apply Kd.R_alloc | apply Kd.R_drewN | apply Kd.R_drew)); exact Kd.R_mono (Kd.R_far (p := ⟨go23, (((rd_T27 t122 x23_1).f0) : Int).toNat, none⟩) (Kd.R_types HO_21.out GG25_.out (by decide)) (fun _ hk => hk.2) (.slice Ao27 y132.length co27)) (fun _ hk => trivial)⟩, ⟨by repeat (first | (with_reducible first | exact HB.out | apply below_alloc | apply pw_below_drewN | apply below_drew1 | refine below_set ?_ GB23.out | refine below_set ?_ GE130.out) | exact HB.out)⟩⟩
                      · rw [if_neg c16] at H
                        exact absurd H (by simp)
                    · rw [if_neg c15] at H
                      exact absurd H (by simp)
                  · rw [if_neg c14] at H
                    exact absurd H (by simp)
                · rw [if_neg c13] at H
                  exact absurd H (by simp)
              · rw [if_neg c12] at H
                exact absurd H (by simp)
            · rw [if_neg c11] at H
              have c11b0 : decide (x23_1 < (t122.length : Int)) = false := decide_eq_false c11
              clear c11
              simp only [Option.some.injEq, Prod.mk.injEq] at H
              obtain ⟨rfl, rfl⟩ := H
              go_wp2
              go_ret2
              exact ⟨_, by first | rfl | (simp [errW_none, errW_some] <;> rfl) | (simp [*, errW_none, errW_some] <;> rfl), by (with_reducible repeat (first | apply Kd.S_alloc | apply Kd.S_drewN | apply Kd.S_drew)); exact HO_8.out, by repeat (first | (with_reducible first | exact HB.out | apply below_alloc | apply pw_below_drewN | apply below_drew1) | exact HB.out)⟩
      · rw [if_neg c6] at H
        exact absurd H (by simp)
    · rw [if_neg c5] at H
      exact absurd H (by simp)
  · rw [if_neg c4] at H
    have c4b0 : (t123 == 0) = false := beq_eq_false_iff_ne.mpr c4
    have c4b1 : (t123 != 0) = true := bne_iff_ne.mpr c4
    simp only [Option.some.injEq, Prod.mk.injEq] at H
    obtain ⟨rfl, rfl⟩ := H
    go_enter Try.func45, Try.ntmps45
    go_wp2_with (first | ((with_reducible refine gate_callee (f := 16) rfl ?_); refine goesL_ (some 14) rfl rfl Try.func16 (by kernel_rfl) rfl #[.int .i64 a0, .slice A1 l1.length c1] rfl (by (try simp only [List.map_toArray, List.map_cons, List.map_nil]); first | done | rfl | (simp only [List.length_drop, List.length_take]; rfl)) ?_; (with_reducible refine (graph_Clean.calls a0 _ _ l1 t122 t123 _ ?side1 ?side2 A3.out).mono ?_); (case side1 => repeat (first | exact HR1.out | (with_reducible refine Kd.C_alloc ?_ _) | (with_reducible refine Kd.C_drewN ?_ _) | (with_reducible refine Kd.C_drew ?_))); (case side2 => exact HC1.out); rintro e w28 ⟨v124, rfl, ho0, hb⟩; refine ⟨_, rfl, ?_⟩; have n0_ := Aside0.mk (Kd.R_lower ho0 (below_size (by repeat (first | (with_reducible first | exact HB.out | apply below_alloc | apply pw_below_drewN | apply below_drew1) | exact HB.out)))); have n1_ := Aside0.mk (below_step (by repeat (first | (with_reducible first | exact HB.out | apply below_alloc | apply pw_below_drewN | apply below_drew1) | exact HB.out)) hb); clear HB; have HO125 := n0_; have HB := n1_; clear n0_ n1_; (try clear hb); (try clear hb2); (try clear hk); (try clear hi); (try clear ho0)))
    go_ret2
    exact ⟨_, by first | rfl | (simp [errW_none, errW_some] <;> rfl) | (simp [*, errW_none, errW_some] <;> rfl), by first | exact Kd.S_nil _ _ _ _ _ | exact Kd.N_nil _ _ _ _ _ | exact Kd.V_nil _ _ _ _ _ | exact Kd.Q_nil _ _ _ _ _ | exact Kd.R_nil _ _ _ _ _, by repeat (first | (with_reducible first | exact HB.out | apply below_alloc | apply pw_below_drewN | apply below_drew1) | exact HB.out)⟩

end Go.Proofs.Ytngmdccheaidkaa.Pr
