/- Texts of the seat, without what this claim does not use. -/
import Derived.Test.YtngmdccheaidkaaTF
import Derived.Test.YtngmdccheaidkaaTF23
import Derived.Test.YtngmdccheaidkaaTF49
-- printed by this session's own turn of print (wip/tools/mkprint.py)
namespace Go.Proofs.Ytngmdccheaidkaa.Pr
open Go.RowKit Go.Proofs.YtngmdccheaidkaaW.PrintWords Go.Proofs.YtngmdccheaidkaaW.PrintLast Go.Proofs.YtngmdccheaidkaaW.PrintMore
attribute [local go_sem] max2_int min2_int max_two min_two max_three min_three max_four min_four   -- for this text's walks alone
set_option linter.unusedVariables false
set_option linter.unusedSimpArgs false

/-! ### lambrequinref10_Parts: function 24 -/
mutual
def lambrequinref10_Parts.l0 : Nat → Int → List (S27) → List (List Bool) → Int → Option ((List (List Int)))
  | 0, _, _, _, _ => none
  | k + 1, x0, x1, x5, x6 => if x6 < x0 then ((lambrequinref10_Reach.f k x0 x1 x6).bind fun t341 => (if x5.length < 5864062014805 then (lambrequinref10_Parts.l0 k x0 x1 (x5 ++ [t341]) (wrap64 (x6 + 1))) else (none))) else (if 0 ≤ x0 then (if (x0 : Int).toNat ≤ 281474976710656 then (lambrequinref10_Parts.l1 k x0 x5 (List.replicate (x0 : Int).toNat false) ([] : List (List Int))) else (none)) else (none))
def lambrequinref10_Parts.l1 : Nat → Int → List (List Bool) → List Bool → List (List Int) → Option ((List (List Int)))
  | 0, _, _, _, _ => none
  | k + 1, x0, x5, x7, x8 => lambrequinref10_Parts.l2 k x0 x5 x7 x8 (-1) (wrap64 (x0 - 1))
def lambrequinref10_Parts.l2 : Nat → Int → List (List Bool) → List Bool → List (List Int) → Int → Int → Option ((List (List Int)))
  | 0, _, _, _, _, _, _ => none
  | k + 1, x0, x5, x7, x8, x9, x10 => if x10 ≥ 0 then (if 0 ≤ x10 then (if x10 < (x7.length : Int) then (lambrequinref10_Parts.l3 k x0 x5 x7 x8 x9 x10 (!(rdOf false x7 x10)) 0) else (none)) else (none)) else (if x9 < 0 then (some x8) else (lambrequinref10_Parts.l4 k x0 x5 x7 x8 x9 ([] : List Int) 0))
def lambrequinref10_Parts.l3 : Nat → Int → List (List Bool) → List Bool → List (List Int) → Int → Int → Bool → Int → Option ((List (List Int)))
  | 0, _, _, _, _, _, _, _, _ => none
  | k + 1, x0, x5, x7, x8, x9, x10, x11, x12 => if x12 < x0 then (if x11 = true then (if 0 ≤ x10 then (if x10 < (x5.length : Int) then (if 0 ≤ x12 then (if x12 < ((rd_L6 x5 x10).length : Int) then (if (rdOf false (rd_L6 x5 x10) x12 = true) then (if x12 < (x5.length : Int) then (if x10 < ((rd_L6 x5 x12).length : Int) then (if rdOf false (rd_L6 x5 x12) x10 = true then (lambrequinref10_Parts.l3 k x0 x5 x7 x8 x9 x10 true (wrap64 (x12 + 1))) else (if x12 < (x7.length : Int) then (lambrequinref10_Parts.l3 k x0 x5 x7 x8 x9 x10 (rdOf false x7 x12) (wrap64 (x12 + 1))) else (none))) else (none)) else (none)) else (lambrequinref10_Parts.l3 k x0 x5 x7 x8 x9 x10 true (wrap64 (x12 + 1)))) else (none)) else (none)) else (none)) else (none)) else (lambrequinref10_Parts.l3 k x0 x5 x7 x8 x9 x10 false (wrap64 (x12 + 1)))) else (if x11 = true then (lambrequinref10_Parts.l2 k x0 x5 x7 x8 x10 (wrap64 (x10 - 1))) else (lambrequinref10_Parts.l2 k x0 x5 x7 x8 x9 (wrap64 (x10 - 1))))
def lambrequinref10_Parts.l4 : Nat → Int → List (List Bool) → List Bool → List (List Int) → Int → List Int → Int → Option ((List (List Int)))
  | 0, _, _, _, _, _, _, _ => none
  | k + 1, x0, x5, x7, x8, x9, x13, x14 => if x14 < x0 then (if 0 ≤ x9 then (if x9 < (x5.length : Int) then (if 0 ≤ x14 then (if x14 < ((rd_L6 x5 x9).length : Int) then (if rdOf false (rd_L6 x5 x9) x14 = true then (if x14 < (x5.length : Int) then (if x9 < ((rd_L6 x5 x14).length : Int) then (if rdOf false (rd_L6 x5 x14) x9 = true then (if x13.length < 17592186044416 then (if x14 < (x7.length : Int) then (lambrequinref10_Parts.l4 k x0 x5 (x7.set (x14 : Int).toNat true) x8 x9 (x13 ++ [x14]) (wrap64 (x14 + 1))) else (none)) else (none)) else (lambrequinref10_Parts.l4 k x0 x5 x7 x8 x9 x13 (wrap64 (x14 + 1)))) else (none)) else (none)) else (lambrequinref10_Parts.l4 k x0 x5 x7 x8 x9 x13 (wrap64 (x14 + 1)))) else (none)) else (none)) else (none)) else (none)) else (if x8.length < 5864062014805 then (lambrequinref10_Parts.l1 k x0 x5 x7 (x8 ++ [x13])) else (none))
end
def lambrequinref10_Parts.f (k : Nat) (a0 : Int) (l1 : List (S27)) : Option ((List (List Int))) := (lambrequinref10_may.f k a0 l1).bind fun t340 => (if t340 = true then (lambrequinref10_Parts.l0 k a0 l1 ([] : List (List Bool)) 0) else (some ([] : List (List Int))))
theorem lambrequinref10_Parts.mono_l : ∀ k, (∀ y0 y1 y2 y3, LeO (lambrequinref10_Parts.l0 k y0 y1 y2 y3) (lambrequinref10_Parts.l0 (k + 1) y0 y1 y2 y3)) ∧ (∀ y0 y1 y2 y3, LeO (lambrequinref10_Parts.l1 k y0 y1 y2 y3) (lambrequinref10_Parts.l1 (k + 1) y0 y1 y2 y3)) ∧ (∀ y0 y1 y2 y3 y4 y5, LeO (lambrequinref10_Parts.l2 k y0 y1 y2 y3 y4 y5) (lambrequinref10_Parts.l2 (k + 1) y0 y1 y2 y3 y4 y5)) ∧ (∀ y0 y1 y2 y3 y4 y5 y6 y7, LeO (lambrequinref10_Parts.l3 k y0 y1 y2 y3 y4 y5 y6 y7) (lambrequinref10_Parts.l3 (k + 1) y0 y1 y2 y3 y4 y5 y6 y7)) ∧ (∀ y0 y1 y2 y3 y4 y5 y6, LeO (lambrequinref10_Parts.l4 k y0 y1 y2 y3 y4 y5 y6) (lambrequinref10_Parts.l4 (k + 1) y0 y1 y2 y3 y4 y5 y6))
  | 0 => ⟨fun _ _ _ _ r h => by simp [lambrequinref10_Parts.l0] at h, fun _ _ _ _ r h => by simp [lambrequinref10_Parts.l1] at h, fun _ _ _ _ _ _ r h => by simp [lambrequinref10_Parts.l2] at h, fun _ _ _ _ _ _ _ _ r h => by simp [lambrequinref10_Parts.l3] at h, fun _ _ _ _ _ _ _ r h => by simp [lambrequinref10_Parts.l4] at h⟩
  | k + 1 => by
    obtain ⟨ih0, ih1, ih2, ih3, ih4⟩ := lambrequinref10_Parts.mono_l k
    refine ⟨?_, ?_, ?_, ?_, ?_⟩
    · intro y0 y1 y2 y3
      unfold lambrequinref10_Parts.l0
      repeat' first
      | (with_reducible exact ih0 _ _ _ _)
      | (with_reducible exact ih1 _ _ _ _)
      | (with_reducible exact ih2 _ _ _ _ _ _)
      | (with_reducible exact ih3 _ _ _ _ _ _ _ _)
      | (with_reducible exact ih4 _ _ _ _ _ _ _)
      | (with_reducible exact lambrequinref10_Reach.mono _ _ _ _)
      | (with_reducible exact lambrequinref10_may.mono _ _ _)
      | (with_reducible exact LeO.refl _)
      | (with_reducible exact LeO.none _)
      | (with_reducible refine LeO.ite ?_ ?_)
      | (with_reducible refine LeO.bind ?_ (fun _ => ?_))
      | exact ih0 _ _ _ _
      | exact ih1 _ _ _ _
      | exact ih2 _ _ _ _ _ _
      | exact ih3 _ _ _ _ _ _ _ _
      | exact ih4 _ _ _ _ _ _ _
      | exact lambrequinref10_Reach.mono _ _ _ _
      | exact lambrequinref10_may.mono _ _ _
      | exact LeO.none _
      | refine LeO.ite ?_ ?_
      | refine LeO.bind ?_ (fun _ => ?_)
    · intro y0 y1 y2 y3
      unfold lambrequinref10_Parts.l1
      repeat' first
      | (with_reducible exact ih0 _ _ _ _)
      | (with_reducible exact ih1 _ _ _ _)
      | (with_reducible exact ih2 _ _ _ _ _ _)
      | (with_reducible exact ih3 _ _ _ _ _ _ _ _)
      | (with_reducible exact ih4 _ _ _ _ _ _ _)
      | (with_reducible exact lambrequinref10_Reach.mono _ _ _ _)
      | (with_reducible exact lambrequinref10_may.mono _ _ _)
      | (with_reducible exact LeO.refl _)
      | (with_reducible exact LeO.none _)
      | (with_reducible refine LeO.ite ?_ ?_)
      | (with_reducible refine LeO.bind ?_ (fun _ => ?_))
      | exact ih0 _ _ _ _
      | exact ih1 _ _ _ _
      | exact ih2 _ _ _ _ _ _
      | exact ih3 _ _ _ _ _ _ _ _
      | exact ih4 _ _ _ _ _ _ _
      | exact lambrequinref10_Reach.mono _ _ _ _
      | exact lambrequinref10_may.mono _ _ _
      | exact LeO.none _
      | refine LeO.ite ?_ ?_
      | refine LeO.bind ?_ (fun _ => ?_)
    · intro y0 y1 y2 y3 y4 y5
      unfold lambrequinref10_Parts.l2
      repeat' first
      | (with_reducible exact ih0 _ _ _ _)
      | (with_reducible exact ih1 _ _ _ _)
      | (with_reducible exact ih2 _ _ _ _ _ _)
      | (with_reducible exact ih3 _ _ _ _ _ _ _ _)
      | (with_reducible exact ih4 _ _ _ _ _ _ _)
      | (with_reducible exact lambrequinref10_Reach.mono _ _ _ _)
      | (with_reducible exact lambrequinref10_may.mono _ _ _)
      | (with_reducible exact LeO.refl _)
      | (with_reducible exact LeO.none _)
      | (with_reducible refine LeO.ite ?_ ?_)
      | (with_reducible refine LeO.bind ?_ (fun _ => ?_))
      | exact ih0 _ _ _ _
      | exact ih1 _ _ _ _
      | exact ih2 _ _ _ _ _ _
      | exact ih3 _ _ _ _ _ _ _ _
      | exact ih4 _ _ _ _ _ _ _
      | exact lambrequinref10_Reach.mono _ _ _ _
      | exact lambrequinref10_may.mono _ _ _
      | exact LeO.none _
      | refine LeO.ite ?_ ?_
      | refine LeO.bind ?_ (fun _ => ?_)
    · intro y0 y1 y2 y3 y4 y5 y6 y7
      unfold lambrequinref10_Parts.l3
      repeat' first
      | (with_reducible exact ih0 _ _ _ _)
      | (with_reducible exact ih1 _ _ _ _)
      | (with_reducible exact ih2 _ _ _ _ _ _)
      | (with_reducible exact ih3 _ _ _ _ _ _ _ _)
      | (with_reducible exact ih4 _ _ _ _ _ _ _)
      | (with_reducible exact lambrequinref10_Reach.mono _ _ _ _)
      | (with_reducible exact lambrequinref10_may.mono _ _ _)
      | (with_reducible exact LeO.refl _)
      | (with_reducible exact LeO.none _)
      | (with_reducible refine LeO.ite ?_ ?_)
      | (with_reducible refine LeO.bind ?_ (fun _ => ?_))
      | exact ih0 _ _ _ _
      | exact ih1 _ _ _ _
      | exact ih2 _ _ _ _ _ _
      | exact ih3 _ _ _ _ _ _ _ _
      | exact ih4 _ _ _ _ _ _ _
      | exact lambrequinref10_Reach.mono _ _ _ _
      | exact lambrequinref10_may.mono _ _ _
      | exact LeO.none _
      | refine LeO.ite ?_ ?_
      | refine LeO.bind ?_ (fun _ => ?_)
    · intro y0 y1 y2 y3 y4 y5 y6
      unfold lambrequinref10_Parts.l4
      repeat' first
      | (with_reducible exact ih0 _ _ _ _)
      | (with_reducible exact ih1 _ _ _ _)
      | (with_reducible exact ih2 _ _ _ _ _ _)
      | (with_reducible exact ih3 _ _ _ _ _ _ _ _)
      | (with_reducible exact ih4 _ _ _ _ _ _ _)
      | (with_reducible exact lambrequinref10_Reach.mono _ _ _ _)
      | (with_reducible exact lambrequinref10_may.mono _ _ _)
      | (with_reducible exact LeO.refl _)
      | (with_reducible exact LeO.none _)
      | (with_reducible refine LeO.ite ?_ ?_)
      | (with_reducible refine LeO.bind ?_ (fun _ => ?_))
      | exact ih0 _ _ _ _
      | exact ih1 _ _ _ _
      | exact ih2 _ _ _ _ _ _
      | exact ih3 _ _ _ _ _ _ _ _
      | exact ih4 _ _ _ _ _ _ _
      | exact lambrequinref10_Reach.mono _ _ _ _
      | exact lambrequinref10_may.mono _ _ _
      | exact LeO.none _
      | refine LeO.ite ?_ ?_
      | refine LeO.bind ?_ (fun _ => ?_)
theorem lambrequinref10_Parts.mono : ∀ a0 a1 k, LeO (lambrequinref10_Parts.f k a0 a1) (lambrequinref10_Parts.f (k + 1) a0 a1) := by
  intro a0 a1 k
  obtain ⟨ih0, ih1, ih2, ih3, ih4⟩ := lambrequinref10_Parts.mono_l k
  unfold lambrequinref10_Parts.f
  repeat' first
      | (with_reducible exact ih0 _ _ _ _)
      | (with_reducible exact ih1 _ _ _ _)
      | (with_reducible exact ih2 _ _ _ _ _ _)
      | (with_reducible exact ih3 _ _ _ _ _ _ _ _)
      | (with_reducible exact ih4 _ _ _ _ _ _ _)
      | (with_reducible exact lambrequinref10_Reach.mono _ _ _ _)
      | (with_reducible exact lambrequinref10_may.mono _ _ _)
      | (with_reducible exact LeO.refl _)
      | (with_reducible exact LeO.none _)
      | (with_reducible refine LeO.ite ?_ ?_)
      | (with_reducible refine LeO.bind ?_ (fun _ => ?_))
      | exact ih0 _ _ _ _
      | exact ih1 _ _ _ _
      | exact ih2 _ _ _ _ _ _
      | exact ih3 _ _ _ _ _ _ _ _
      | exact ih4 _ _ _ _ _ _ _
      | exact lambrequinref10_Reach.mono _ _ _ _
      | exact lambrequinref10_may.mono _ _ _
      | exact LeO.none _
      | refine LeO.ite ?_ ?_
      | refine LeO.bind ?_ (fun _ => ?_)
set_option maxHeartbeats 8000000 in
set_option maxRecDepth 100000 in
theorem lambrequinref10_Parts.calls (k : Nat) (a0 : Int) (A1 : Option Addr) (c1 : Nat) (l1 : List (S27)) (r : List (List Int)) (w : World) (hr1 : Kd.C k27 w A1 l1.length l1) (hc1 : l1.length ≤ c1) (h : lambrequinref10_Parts.f k a0 l1 = some r) :
    Calls Try.prog 24 #[.int .i64 a0, .slice A1 l1.length c1] w fun e w' => ∃ v0_ : Value, e = .returned (v0_) ∧ Kd.S (Kd.slice 3 (Kd.int .i64)) 35 w' w.heap.size (fun _ => True) v0_ r ∧ Below w.heap.size w w' := by
  have HR1 := Aside0.mk hr1
  have HC1 := Aside0.mk hc1
  clear hr1 hc1
  have HB := Aside0.mk (Below.refl w.heap.size w)
  have H : ((lambrequinref10_may.f k a0 l1).bind fun t340 => (if t340 = true then (lambrequinref10_Parts.l0 k a0 l1 ([] : List (List Bool)) 0) else (some ([] : List (List Int))))) = some r := h
  clear h
  replace H := Option.bind_eq_some_iff.mp H
  obtain ⟨t340, A30, H⟩ := H
  replace H : (if t340 = true then (lambrequinref10_Parts.l0 k a0 l1 ([] : List (List Bool)) 0) else (some ([] : List (List Int)))) = some r := H
  have A3 := Aside0.mk A30
  clear A30
  by_cases c4 : t340 = true
  · subst c4
    have H1 : (lambrequinref10_Parts.l0 k a0 l1 ([] : List (List Bool)) 0) = some r := by rw [if_pos rfl] at H; exact H
    clear H
    have H := H1
    clear H1
    have H' := Aside0.mk H
    clear H
    go_enter Try.func24, Try.ntmps24
    go_wp2_with (first | ((with_reducible refine gate_callee (f := 49) rfl ?_); refine goesL_ (some 17) rfl rfl Try.func49 (by kernel_rfl) rfl #[.int .i64 a0, .slice A1 l1.length c1] rfl (by (try simp only [List.map_toArray, List.map_cons, List.map_nil]); first | done | rfl | (simp only [List.length_drop, List.length_take]; rfl)) ?_; (with_reducible refine (lambrequinref10_may.calls k a0 _ _ l1 true _ ?side1 ?side2 A3.out).mono ?_); (case side1 => repeat (first | exact HR1.out | (with_reducible refine Kd.C_alloc ?_ _) | (with_reducible refine Kd.C_drewN ?_ _) | (with_reducible refine Kd.C_drew ?_))); (case side2 => exact HC1.out); rintro e w' ⟨rfl, ⟨nd, rfl⟩⟩; refine ⟨_, rfl, ?_⟩))
    go_loopg [5, 6] k (fun kq v5 v6 w' => ∃ (x5_1 : List (List Bool)) (x6_1 : Int), v6 = .int .i64 x6_1 ∧ Aside0 (lambrequinref10_Parts.l0 kq a0 l1 x5_1 x6_1 = some r) ∧ Aside0 (kq ≤ k) ∧ Aside0 (Kd.S (Kd.slice 4 Kd.bool) 40 w' w.heap.size (fun _ => True) v5 x5_1) ∧ Aside0 (Below w.heap.size w w'))
    case atStart => exact ⟨(([] : List (List Bool))), (0), (by first | rfl | (simp; done) | (simp [*]; done)), H', ⟨Nat.le_refl _⟩, ⟨by first | exact Kd.S_nil _ _ _ _ _ | exact Kd.N_nil _ _ _ _ _ | exact Kd.V_nil _ _ _ _ _ | exact Kd.Q_nil _ _ _ _ _ | exact Kd.R_nil _ _ _ _ _⟩, ⟨by repeat (first | (with_reducible first | exact HB.out | apply below_alloc | apply pw_below_drewN | apply below_drew1) | exact HB.out)⟩⟩
    case round =>
      clear H'
      try clear c1
      try clear c2
      try clear p2
      try clear c4
      obtain ⟨x5_1, x6_1, rfl, HA, HK1, HO_5, HB⟩ := hrel
      cases gk with
      | zero => exact absurd HA.out (by simp [lambrequinref10_Parts.l0])
      | succ k1 =>
        have H := HA.out
        clear HA
        simp only [lambrequinref10_Parts.l0] at H
        by_cases c5 : x6_1 < a0
        · rw [if_pos c5] at H
          have c5b0 : decide (x6_1 < a0) = true := decide_eq_true c5
          clear c5
          replace H := Option.bind_eq_some_iff.mp H
          obtain ⟨t341, A60, H⟩ := H
          replace H : (if x5_1.length < 5864062014805 then (lambrequinref10_Parts.l0 k1 a0 l1 (x5_1 ++ [t341]) (wrap64 (x6_1 + 1))) else (none)) = some r := H
          have A6 := Aside0.mk A60
          clear A60
          by_cases c7 : x5_1.length < 5864062014805
          · rw [if_pos c7] at H
            have LMc7 := Aside0.mk c7
            clear c7
            obtain ⟨y344, hy344⟩ : ∃ y_ : List (List Bool), y_ = (x5_1 ++ [t341]) := ⟨_, rfl⟩
            replace H : (lambrequinref10_Parts.l0 k1 a0 l1 y344 (wrap64 (x6_1 + 1))) = some r := by first | (rw [hy344]; with_reducible exact H) | (have H2_ := (Option.bind_some _ _).symm.trans H; rw [hy344]; with_reducible exact H2_) | (have H2_ := (Option.bind_some _ _).symm.trans H; with_reducible exact H2_) | with_reducible exact H | (rw [hy344]; exact H) | exact H
            have Ny344 := Aside0.mk hy344
            clear hy344
            have H' := Aside0.mk H
            clear H
            go_wp2_with (first | ((with_reducible refine gate_callee (f := 23) rfl ?_); refine goesL_ (some 28) rfl rfl Try.func23 (by kernel_rfl) rfl #[.int .i64 a0, .slice A1 l1.length c1, .int .i64 x6_1] rfl (by (try simp only [List.map_toArray, List.map_cons, List.map_nil]); first | done | rfl | (simp only [List.length_drop, List.length_take]; rfl)) ?_; (with_reducible refine (lambrequinref10_Reach.calls k1 a0 _ _ l1 x6_1 t341 _ ?side1 ?side2 A6.out).mono ?_); (case side1 => repeat (first | exact (Kd.C_below HR1.out HB.out) | (with_reducible refine Kd.C_alloc ?_ _) | (with_reducible refine Kd.C_drewN ?_ _) | (with_reducible refine Kd.C_drew ?_))); (case side2 => exact HC1.out); rintro e w8 ⟨v342, rfl, ho0, hb⟩; refine ⟨_, rfl, ?_⟩; have n0_ := Aside0.mk (Kd.S_elder' (by (with_reducible repeat (first | apply Kd.S_alloc | apply Kd.S_drewN | apply Kd.S_drew)); exact HO_5.out) (Kd.R_base ho0) hb); have n1_ := Aside0.mk (Kd.R_lower ho0 (below_size (by repeat (first | (with_reducible first | exact HB.out | apply below_alloc | apply pw_below_drewN | apply below_drew1) | exact HB.out)))); have n2_ := Aside0.mk (below_step (by repeat (first | (with_reducible first | exact HB.out | apply below_alloc | apply pw_below_drewN | apply below_drew1) | exact HB.out)) hb); clear HO_5; clear HB; have HO_5 := n0_; have HO343 := n1_; have HB := n2_; clear n0_ n1_ n2_; (try clear hb); (try clear hb2); (try clear hk); (try clear hi); (try clear ho0); obtain ⟨Ao10, co10, eo10⟩ := Kd.R_slice HO343.out; subst eo10) | ((with_reducible refine gate_builtin (b := .append) (xs := #[.tmp 24, .tmp 29]) rfl ?_); at_builtin; refine Kd.S_append (Kd.slice 4 Kd.bool) (w0 := w) w.heap.size rfl (.tmp 24) (.tmp 29) 86 40 (.slice none 0 0) 24 rfl Try.underlying86 info40 rfl (by decide) (by omega) u5 x5_1 t341 [.slice Ao10 t341.length co10] (fun _ => True) (fun k_ => some k_ = (.slice Ao10 t341.length co10 : Value).ownBlock) rfl rfl ?aP (fun k_ hk_ => ((Kd.R_mono (ok' := fun k_ => ((fun _ => True)) k_ ∧ some k_ ≠ (u5 : Value).ownBlock) (Kd.R_apart' (HO343.out) (Kd.S_typed HO_5.out) (by decide)) (fun k_ hk => ⟨trivial, hk.2⟩))).1 k_ hk_.symm) ?aF ?aO ?aB ?aS ?aL ?_; (case aP => exact Kd.M_row (Kd.R_mono (Kd.R_tight rfl (Kd.R_mono (ok' := fun k_ => ((fun _ => True)) k_ ∧ some k_ ≠ (u5 : Value).ownBlock) (Kd.R_apart' (HO343.out) (Kd.S_typed HO_5.out) (by decide)) (fun k_ hk => ⟨trivial, hk.2⟩))) (fun _ h_ => h_))); (case aB => exact (by repeat (first | (with_reducible first | exact HB.out | apply below_alloc | apply pw_below_drewN | apply below_drew1) | exact HB.out))); (case aF => exact (fun _ _ => trivial)); (case aO => exact (by (with_reducible repeat (first | apply Kd.S_alloc | apply Kd.S_drewN | apply Kd.S_drew)); exact Kd.S_mono HO_5.out (fun k_ hk => ⟨trivial, fun e_ => hk.2 e_⟩))); (case aS => exact (below_size (by repeat (first | (with_reducible first | exact HB.out | apply below_alloc | apply pw_below_drewN | apply below_drew1) | exact HB.out)))); (case aL => have := LMc7.out; omega); intro v345 w9 ho hb hg hat; rw [← Ny344.out] at ho; have n0_ := Aside0.mk (hb); have n1_ := Aside0.mk (ho); clear HB; clear HO_5; clear HO343; have HB := n0_; have HO346 := n1_; clear n0_ n1_; clear ho hb hg hat))
            go_roundg k1
            case measure => have := HK1.out; omega
            case rel => exact ⟨(y344), (wrap64 (x6_1 + 1)), (by first | rfl | (simp; done) | (simp [*]; done)), H', ⟨by have := HK1.out; omega⟩, ⟨by (with_reducible repeat (first | apply Kd.S_alloc | apply Kd.S_drewN | apply Kd.S_drew)); exact HO346.out⟩, ⟨by repeat (first | (with_reducible first | exact HB.out | apply below_alloc | apply pw_below_drewN | apply below_drew1) | exact HB.out)⟩⟩
          · rw [if_neg c7] at H
            exact absurd H (by simp)
        · rw [if_neg c5] at H
          have c5b0 : decide (x6_1 < a0) = false := decide_eq_false c5
          clear c5
          by_cases c11 : 0 ≤ a0
          · rw [if_pos c11] at H
            have c11b0 := eq_true c11
            have c11b1 : decide (0 ≤ a0) = true := decide_eq_true c11
            clear c11
            by_cases c12 : (a0 : Int).toNat ≤ 281474976710656
            · rw [if_pos c12] at H
              have c12b0 := eq_true c12
              have c12b1 : decide ((a0 : Int).toNat ≤ 281474976710656) = true := decide_eq_true c12
              clear c12
              obtain ⟨y347, hy347⟩ : ∃ y_ : List Bool, y_ = (List.replicate (a0 : Int).toNat false) := ⟨_, rfl⟩
              replace H : (lambrequinref10_Parts.l1 k1 a0 x5_1 y347 ([] : List (List Int))) = some r := by first | (rw [hy347]; with_reducible exact H) | (have H2_ := (Option.bind_some _ _).symm.trans H; rw [hy347]; with_reducible exact H2_) | (have H2_ := (Option.bind_some _ _).symm.trans H; with_reducible exact H2_) | with_reducible exact H | (rw [hy347]; exact H) | exact H
              have Ny347 := Aside0.mk hy347
              clear hy347
              have H' := Aside0.mk H
              clear H
              go_wp2_with (first | ((with_reducible refine gate_dst (N := 32) rfl ?_); refine Kd.R_make Kd.bool _ 4 rfl (N := 32) rfl 40 _ _ rfl a0 rfl rfl Try.underlying40 (.bool false) 1 info4 rfl (by decide) (by omega) false (ok := fun _ => True) (okp := fun _ => True) rfl (fun _ hk => hk) trivial (of_decide_eq_true (by first | (with_reducible assumption) | assumption)) (Nat.le_trans (Nat.mul_le_mul_right _ (of_decide_eq_true (by first | (with_reducible assumption) | assumption) : a0.toNat ≤ 281474976710656)) (by omega)) (Below.refl _ _) (Nat.le_refl _) ?_; intro v348 w13 ho14 hb hg_ hnew_; clear hg_ hnew_; (first | rw [← Ny347.out] at ho14 | (simp only [Int.reduceToNat] at ho14; rw [← Ny347.out] at ho14)); have n0_ := Aside0.mk (Kd.S_elder' (by (with_reducible repeat (first | apply Kd.S_alloc | apply Kd.S_drewN | apply Kd.S_drew)); exact HO_5.out) (Kd.R_base ho14) hb); have n1_ := Aside0.mk (Kd.R_lower ho14 (below_size (by repeat (first | (with_reducible first | exact HB.out | apply below_alloc | apply pw_below_drewN | apply below_drew1) | exact HB.out)))); have n2_ := Aside0.mk (below_step (by repeat (first | (with_reducible first | exact HB.out | apply below_alloc | apply pw_below_drewN | apply below_drew1) | exact HB.out)) hb); clear HO_5; clear HB; have HO_5 := n0_; have HO349 := n1_; have HB := n2_; clear n0_ n1_ n2_; clear hb ho14))
              go_loopg [8] k1 (fun kq v8 w' => ∃ (x7_2 : List Bool) (x8_2 : List (List Int)), Aside0 (lambrequinref10_Parts.l1 kq a0 x5_1 x7_2 x8_2 = some r) ∧ Aside0 (kq ≤ k1) ∧ Aside0 (Kd.S (Kd.slice 4 Kd.bool) 40 w' w.heap.size (fun k_ => some k_ ≠ (v348 : Value).ownBlock) u5 x5_1) ∧ Aside0 (Kd.R Kd.bool 4 w' w.heap.size (fun _ => True) v348 x7_2) ∧ Aside0 (Kd.S (Kd.slice 3 (Kd.int .i64)) 35 w' w.heap.size (fun _ => True) v8 x8_2) ∧ Aside0 (Below w.heap.size w w'))
              case atStart => exact ⟨(y347), (([] : List (List Int))), H', ⟨Nat.le_refl _⟩, ⟨by (with_reducible repeat (first | apply Kd.S_alloc | apply Kd.S_drewN | apply Kd.S_drew)); exact Kd.S_mono HO_5.out (fun _ hk => hk.2)⟩, ⟨by (with_reducible repeat (first | apply Kd.R_alloc | apply Kd.R_drewN | apply Kd.R_drew)); exact HO349.out⟩, ⟨by first | exact Kd.S_nil _ _ _ _ _ | exact Kd.N_nil _ _ _ _ _ | exact Kd.V_nil _ _ _ _ _ | exact Kd.Q_nil _ _ _ _ _ | exact Kd.R_nil _ _ _ _ _⟩, ⟨by repeat (first | (with_reducible first | exact HB.out | apply below_alloc | apply pw_below_drewN | apply below_drew1) | exact HB.out)⟩⟩
              case round =>
                clear H'
                try clear c1
                try clear c2
                try clear p2
                try clear c4
                try clear c5
                try clear c5b0
                try clear p6
                try clear c7
                try clear c11
                try clear c11b0
                try clear c11b1
                try clear c12
                try clear c12b0
                try clear c12b1
                try clear p2
                obtain ⟨x7_2, x8_2, HA, HK2, HO_5, HO_7, HO_8, HB⟩ := hrel
                cases gk with
                | zero => exact absurd HA.out (by simp [lambrequinref10_Parts.l1])
                | succ k2 =>
                  have H := HA.out
                  clear HA
                  simp only [lambrequinref10_Parts.l1] at H
                  have H' := Aside0.mk H
                  clear H
                  go_wp2
                  go_loopg [9, 10] k2 (fun kq v9 v10 w' => ∃ (x9_3 : Int) (x10_3 : Int), v9 = .int .i64 x9_3 ∧ v10 = .int .i64 x10_3 ∧ Aside0 (lambrequinref10_Parts.l2 kq a0 x5_1 x7_2 x8_2 x9_3 x10_3 = some r) ∧ Aside0 (kq ≤ k2) ∧ Aside0 (Kd.S (Kd.slice 4 Kd.bool) 40 w' w.heap.size (fun k_ => some k_ ≠ (v348 : Value).ownBlock) u5 x5_1) ∧ Aside0 (Kd.R Kd.bool 4 w' w.heap.size (fun _ => True) v348 x7_2) ∧ Aside0 (Kd.S (Kd.slice 3 (Kd.int .i64)) 35 w' w.heap.size (fun _ => True) u8 x8_2) ∧ Aside0 (Below w.heap.size w w'))
                  case atStart => exact ⟨((-1)), (wrap64 (a0 - 1)), (by first | rfl | (simp; done) | (simp [*]; done)), (by first | rfl | (simp; done) | (simp [*]; done)), H', ⟨Nat.le_refl _⟩, ⟨by (with_reducible repeat (first | apply Kd.S_alloc | apply Kd.S_drewN | apply Kd.S_drew)); exact HO_5.out⟩, ⟨by (with_reducible repeat (first | apply Kd.R_alloc | apply Kd.R_drewN | apply Kd.R_drew)); exact HO_7.out⟩, ⟨by (with_reducible repeat (first | apply Kd.S_alloc | apply Kd.S_drewN | apply Kd.S_drew)); exact HO_8.out⟩, ⟨by repeat (first | (with_reducible first | exact HB.out | apply below_alloc | apply pw_below_drewN | apply below_drew1) | exact HB.out)⟩⟩
                  case round =>
                    clear H'
                    try clear c1
                    try clear c2
                    try clear p2
                    try clear c4
                    try clear c5
                    try clear c5b0
                    try clear p6
                    try clear c7
                    try clear c11
                    try clear c11b0
                    try clear c11b1
                    try clear c12
                    try clear c12b0
                    try clear c12b1
                    try clear p2
                    try clear p6
                    obtain ⟨x9_3, x10_3, rfl, rfl, HA, HK3, HO_5, HO_7, HO_8, HB⟩ := hrel
                    cases gk with
                    | zero => exact absurd HA.out (by simp [lambrequinref10_Parts.l2])
                    | succ k3 =>
                      have H := HA.out
                      clear HA
                      simp only [lambrequinref10_Parts.l2] at H
                      by_cases c15 : x10_3 ≥ 0
                      · rw [if_pos c15] at H
                        have c15b0 : decide (0 ≤ x10_3) = true := decide_eq_true c15
                        clear c15
                        by_cases c16 : 0 ≤ x10_3
                        · rw [if_pos c16] at H
                          have c16b0 : decide (0 ≤ x10_3) = true := decide_eq_true c16
                          clear c16
                          by_cases c17 : x10_3 < (x7_2.length : Int)
                          · rw [if_pos c17] at H
                            have c17b0 : decide (x10_3 < (x7_2.length : Int)) = true := decide_eq_true c17
                            clear c17
                            have H' := Aside0.mk H
                            clear H
                            obtain ⟨Ao18, co18, eo18⟩ := Kd.R_slice HO_7.out
                            subst eo18
                            have p350 : 0 ≤ (x10_3 : Int) := of_decide_eq_true (by first | (with_reducible assumption) | assumption)
                            have q350 : x10_3 < (x7_2.length : Int) := of_decide_eq_true (by first | (with_reducible assumption) | assumption)
                            obtain ⟨ad350, e350, hx350_0⟩ := Kd.at_bool (Kd.R_reads' HO_7.out).2.2 x10_3 p350 q350
                            cases e350
                            replace p350 := eq_true p350
                            replace q350 := eq_true q350
                            go_wp2
                            go_loopg [11, 12] k3 (fun kq v11 v12 w' => ∃ (x11_4 : Bool) (x12_4 : Int), v11 = .bool x11_4 ∧ v12 = .int .i64 x12_4 ∧ Aside0 (lambrequinref10_Parts.l3 kq a0 x5_1 x7_2 x8_2 x9_3 x10_3 x11_4 x12_4 = some r) ∧ Aside0 (kq ≤ k3) ∧ Aside0 (Kd.S (Kd.slice 4 Kd.bool) 40 w' w.heap.size (fun k_ => some k_ ≠ ((.slice (some ad350) x7_2.length co18) : Value).ownBlock) u5 x5_1) ∧ Aside0 (Kd.R Kd.bool 4 w' w.heap.size (fun _ => True) (.slice (some ad350) x7_2.length co18) x7_2) ∧ Aside0 (Kd.S (Kd.slice 3 (Kd.int .i64)) 35 w' w.heap.size (fun _ => True) u8 x8_2) ∧ Aside0 (Below w.heap.size w w'))
                            case atStart => exact ⟨(!(rdOf false x7_2 x10_3)), (0), (by first | rfl | (simp; done) | (simp [*]; done)), (by first | rfl | (simp; done) | (simp [*]; done)), H', ⟨Nat.le_refl _⟩, ⟨by (with_reducible repeat (first | apply Kd.S_alloc | apply Kd.S_drewN | apply Kd.S_drew)); exact HO_5.out⟩, ⟨by (with_reducible repeat (first | apply Kd.R_alloc | apply Kd.R_drewN | apply Kd.R_drew)); exact HO_7.out⟩, ⟨by (with_reducible repeat (first | apply Kd.S_alloc | apply Kd.S_drewN | apply Kd.S_drew)); exact HO_8.out⟩, ⟨by repeat (first | (with_reducible first | exact HB.out | apply below_alloc | apply pw_below_drewN | apply below_drew1) | exact HB.out)⟩⟩
                            case round =>
                              clear H'
                              try clear c1
                              try clear c2
                              try clear p2
                              try clear p3
                              try clear q3
                              try clear hx3
                              try clear c4
                              try clear c5
                              try clear c5b0
                              try clear p6
                              try clear c7
                              try clear c11
                              try clear c11b0
                              try clear c11b1
                              try clear c12
                              try clear c12b0
                              try clear c12b1
                              try clear c15
                              try clear c15b0
                              try clear c16
                              try clear c16b0
                              try clear c17
                              try clear c17b0
                              try clear hx350_0
                              try clear p2
                              try clear p350
                              try clear p6
                              try clear q350
                              obtain ⟨x11_4, x12_4, rfl, rfl, HA, HK4, HO_5, HO_7, HO_8, HB⟩ := hrel
                              cases gk with
                              | zero => exact absurd HA.out (by simp [lambrequinref10_Parts.l3])
                              | succ k4 =>
                                have H := HA.out
                                clear HA
                                simp only [lambrequinref10_Parts.l3] at H
                                by_cases c19 : x12_4 < a0
                                · rw [if_pos c19] at H
                                  have c19b0 : decide (x12_4 < a0) = true := decide_eq_true c19
                                  clear c19
                                  by_cases c20 : x11_4 = true
                                  · subst c20
                                    have H1 : (if 0 ≤ x10_3 then (if x10_3 < (x5_1.length : Int) then (if 0 ≤ x12_4 then (if x12_4 < ((rd_L6 x5_1 x10_3).length : Int) then (if (rdOf false (rd_L6 x5_1 x10_3) x12_4 = true) then (if x12_4 < (x5_1.length : Int) then (if x10_3 < ((rd_L6 x5_1 x12_4).length : Int) then (if rdOf false (rd_L6 x5_1 x12_4) x10_3 = true then (lambrequinref10_Parts.l3 k4 a0 x5_1 x7_2 x8_2 x9_3 x10_3 true (wrap64 (x12_4 + 1))) else (if x12_4 < (x7_2.length : Int) then (lambrequinref10_Parts.l3 k4 a0 x5_1 x7_2 x8_2 x9_3 x10_3 (rdOf false x7_2 x12_4) (wrap64 (x12_4 + 1))) else (none))) else (none)) else (none)) else (lambrequinref10_Parts.l3 k4 a0 x5_1 x7_2 x8_2 x9_3 x10_3 true (wrap64 (x12_4 + 1)))) else (none)) else (none)) else (none)) else (none)) = some r := by rw [if_pos rfl] at H; exact H
                                    clear H
                                    have H := H1
                                    clear H1
                                    by_cases c21 : 0 ≤ x10_3
                                    · rw [if_pos c21] at H
                                      have c21b0 : decide (0 ≤ x10_3) = true := decide_eq_true c21
                                      clear c21
                                      by_cases c22 : x10_3 < (x5_1.length : Int)
                                      · rw [if_pos c22] at H
                                        have c22b0 : decide (x10_3 < (x5_1.length : Int)) = true := decide_eq_true c22
                                        clear c22
                                        by_cases c23 : 0 ≤ x12_4
                                        · rw [if_pos c23] at H
                                          have c23b0 : decide (0 ≤ x12_4) = true := decide_eq_true c23
                                          clear c23
                                          by_cases c24 : x12_4 < ((rd_L6 x5_1 x10_3).length : Int)
                                          · rw [if_pos c24] at H
                                            have c24b0 : decide (x12_4 < ((rd_L6 x5_1 x10_3).length : Int)) = true := decide_eq_true c24
                                            clear c24
                                            obtain ⟨bq25, hbq25⟩ : ∃ b_ : Bool, b_ = (rdOf false (rd_L6 x5_1 x10_3) x12_4) := ⟨_, rfl⟩
                                            replace H : (if (bq25 = true) then (if x12_4 < (x5_1.length : Int) then (if x10_3 < ((rd_L6 x5_1 x12_4).length : Int) then (if rdOf false (rd_L6 x5_1 x12_4) x10_3 = true then (lambrequinref10_Parts.l3 k4 a0 x5_1 x7_2 x8_2 x9_3 x10_3 true (wrap64 (x12_4 + 1))) else (if x12_4 < (x7_2.length : Int) then (lambrequinref10_Parts.l3 k4 a0 x5_1 x7_2 x8_2 x9_3 x10_3 (rdOf false x7_2 x12_4) (wrap64 (x12_4 + 1))) else (none))) else (none)) else (none)) else (lambrequinref10_Parts.l3 k4 a0 x5_1 x7_2 x8_2 x9_3 x10_3 true (wrap64 (x12_4 + 1)))) = some r := by rw [← hbq25] at H; exact H
                                            have Nbq25 := Aside0.mk hbq25
                                            clear hbq25
                                            by_cases c26 : (bq25 = true)
                                            · subst c26
                                              have H1 : (if x12_4 < (x5_1.length : Int) then (if x10_3 < ((rd_L6 x5_1 x12_4).length : Int) then (if rdOf false (rd_L6 x5_1 x12_4) x10_3 = true then (lambrequinref10_Parts.l3 k4 a0 x5_1 x7_2 x8_2 x9_3 x10_3 true (wrap64 (x12_4 + 1))) else (if x12_4 < (x7_2.length : Int) then (lambrequinref10_Parts.l3 k4 a0 x5_1 x7_2 x8_2 x9_3 x10_3 (rdOf false x7_2 x12_4) (wrap64 (x12_4 + 1))) else (none))) else (none)) else (none)) = some r := by rw [if_pos rfl] at H; exact H
                                              clear H
                                              have H := H1
                                              clear H1
                                              by_cases c27 : x12_4 < (x5_1.length : Int)
                                              · rw [if_pos c27] at H
                                                have c27b0 : decide (x12_4 < (x5_1.length : Int)) = true := decide_eq_true c27
                                                clear c27
                                                by_cases c28 : x10_3 < ((rd_L6 x5_1 x12_4).length : Int)
                                                · rw [if_pos c28] at H
                                                  have c28b0 : decide (x10_3 < ((rd_L6 x5_1 x12_4).length : Int)) = true := decide_eq_true c28
                                                  clear c28
                                                  obtain ⟨bq29, hbq29⟩ : ∃ b_ : Bool, b_ = (rdOf false (rd_L6 x5_1 x12_4) x10_3) := ⟨_, rfl⟩
                                                  replace H : (if bq29 = true then (lambrequinref10_Parts.l3 k4 a0 x5_1 x7_2 x8_2 x9_3 x10_3 true (wrap64 (x12_4 + 1))) else (if x12_4 < (x7_2.length : Int) then (lambrequinref10_Parts.l3 k4 a0 x5_1 x7_2 x8_2 x9_3 x10_3 (rdOf false x7_2 x12_4) (wrap64 (x12_4 + 1))) else (none))) = some r := by rw [← hbq29] at H; exact H
                                                  have Nbq29 := Aside0.mk hbq29
                                                  clear hbq29
                                                  by_cases c30 : bq29 = true
                                                  · subst c30
                                                    have H1 : (lambrequinref10_Parts.l3 k4 a0 x5_1 x7_2 x8_2 x9_3 x10_3 true (wrap64 (x12_4 + 1))) = some r := by rw [if_pos rfl] at H; exact H
                                                    clear H
                                                    have H := H1
                                                    clear H1
                                                    have H' := Aside0.mk H
                                                    clear H
                                                    obtain ⟨Ao31, co31, eo31⟩ := Kd.S_slice HO_5.out
                                                    subst eo31
                                                    have p351 : 0 ≤ (x10_3 : Int) := of_decide_eq_true (by first | (with_reducible assumption) | assumption)
                                                    have q351 : x10_3 < (x5_1.length : Int) := of_decide_eq_true (by first | (with_reducible assumption) | assumption)
                                                    obtain ⟨ad351, A351_0, c351_0, e351, hx351_0, hl351_0, hi351_0⟩ := at_L6 (Kd.S_reads' HO_5.out).2.2 x10_3 p351 q351
                                                    cases e351
                                                    obtain ⟨ce351, hce351, hMe351, hcc351⟩ := Kd.S_get HO_5.out [] x10_3 p351 (by first | exact q351 | exact of_decide_eq_true (by first | (with_reducible assumption) | assumption) | (have e_ := (Kd.S_reads' HO_5.out).1; omega))
                                                    obtain ⟨ve351_0, rfl, ge351_0⟩ := hMe351
                                                    have hv351_0 := hcc351 0 _ rfl
                                                    rw [Nat.add_zero, show ((Kd.slice 4 Kd.bool)).sz = 1 from rfl, Nat.mul_one] at hv351_0
                                                    replace hv351_0 := Option.some.inj (hv351_0.symm.trans hx351_0)
                                                    rw [hv351_0] at ge351_0
                                                    have HL351_0 := Aside0.mk (show Kd.R Kd.bool 4 _ _ _ _ (rd_L6 x5_1 x10_3) from ge351_0)
                                                    clear hv351_0 ge351_0
                                                    clear hcc351 hce351
                                                    have HR351_0 := Aside0.mk hi351_0
                                                    have HC351_0 := Aside0.mk hl351_0
                                                    clear hi351_0 hl351_0
                                                    replace p351 := eq_true p351
                                                    replace q351 := eq_true q351
                                                    have p352 : 0 ≤ (x12_4 : Int) := of_decide_eq_true (by first | (with_reducible assumption) | assumption)
                                                    have q352 : x12_4 < ((rd_L6 x5_1 x10_3).length : Int) := of_decide_eq_true (by first | (with_reducible assumption) | assumption)
                                                    obtain ⟨ad352, e352, hx352_0⟩ := Kd.at_bool (by repeat (first | (with_reducible exact HR351_0.out) | (with_reducible refine Kd.C_alloc ?_ _) | (with_reducible refine Kd.C_drewN ?_ _) | (with_reducible refine Kd.C_drew ?_) | exact HR351_0.out)) x12_4 p352 q352
                                                    (try rw [← Nbq25.out] at hx352_0)
                                                    (try rw [← Nbq29.out] at hx352_0)
                                                    cases e352
                                                    replace p352 := eq_true p352
                                                    replace q352 := eq_true q352
                                                    have p353 : 0 ≤ (x12_4 : Int) := of_decide_eq_true (by first | (with_reducible assumption) | assumption)
                                                    have q353 : x12_4 < (x5_1.length : Int) := of_decide_eq_true (by first | (with_reducible assumption) | assumption)
                                                    obtain ⟨ad353, A353_0, c353_0, e353, hx353_0, hl353_0, hi353_0⟩ := at_L6 (Kd.S_reads' HO_5.out).2.2 x12_4 p353 q353
                                                    obtain rfl : ad351 = ad353 := (by injection e353)
                                                    obtain ⟨ce353, hce353, hMe353, hcc353⟩ := Kd.S_get HO_5.out [] x12_4 p353 (by first | exact q353 | exact of_decide_eq_true (by first | (with_reducible assumption) | assumption) | (have e_ := (Kd.S_reads' HO_5.out).1; omega))
                                                    obtain ⟨ve353_0, rfl, ge353_0⟩ := hMe353
                                                    have hv353_0 := hcc353 0 _ rfl
                                                    rw [Nat.add_zero, show ((Kd.slice 4 Kd.bool)).sz = 1 from rfl, Nat.mul_one] at hv353_0
                                                    replace hv353_0 := Option.some.inj (hv353_0.symm.trans hx353_0)
                                                    rw [hv353_0] at ge353_0
                                                    have HL353_0 := Aside0.mk (show Kd.R Kd.bool 4 _ _ _ _ (rd_L6 x5_1 x12_4) from ge353_0)
                                                    clear hv353_0 ge353_0
                                                    clear hcc353 hce353
                                                    have HR353_0 := Aside0.mk hi353_0
                                                    have HC353_0 := Aside0.mk hl353_0
                                                    clear hi353_0 hl353_0
                                                    replace p353 := eq_true p353
                                                    replace q353 := eq_true q353
                                                    have p354 : 0 ≤ (x10_3 : Int) := of_decide_eq_true (by first | (with_reducible assumption) | assumption)
                                                    have q354 : x10_3 < ((rd_L6 x5_1 x12_4).length : Int) := of_decide_eq_true (by first | (with_reducible assumption) | assumption)
                                                    obtain ⟨ad354, e354, hx354_0⟩ := Kd.at_bool (by repeat (first | (with_reducible exact HR353_0.out) | (with_reducible refine Kd.C_alloc ?_ _) | (with_reducible refine Kd.C_drewN ?_ _) | (with_reducible refine Kd.C_drew ?_) | exact HR353_0.out)) x10_3 p354 q354
                                                    (try rw [← Nbq25.out] at hx354_0)
                                                    (try rw [← Nbq29.out] at hx354_0)
                                                    cases e354
                                                    replace p354 := eq_true p354
                                                    replace q354 := eq_true q354
                                                    go_wp2
                                                    go_roundg k4
                                                    case measure => have := HK1.out; have := HK2.out; have := HK3.out; have := HK4.out; omega
                                                    case rel => exact ⟨(true), (wrap64 (x12_4 + 1)), (by first | rfl | (simp; done) | (simp [*]; done)), (by first | rfl | (simp; done) | (simp [*]; done)), H', ⟨by have := HK1.out; have := HK2.out; have := HK3.out; have := HK4.out; omega⟩, ⟨by (with_reducible repeat (first | apply Kd.S_alloc | apply Kd.S_drewN | apply Kd.S_drew)); exact HO_5.out⟩, ⟨by (with_reducible repeat (first | apply Kd.R_alloc | apply Kd.R_drewN | apply Kd.R_drew)); exact HO_7.out⟩, ⟨by (with_reducible repeat (first | apply Kd.S_alloc | apply Kd.S_drewN | apply Kd.S_drew)); exact HO_8.out⟩, ⟨by repeat (first | (with_reducible first | exact HB.out | apply below_alloc | apply pw_below_drewN | apply below_drew1) | exact HB.out)⟩⟩
                                                  · replace c30 := Bool.eq_false_iff.mpr c30
                                                    subst c30
                                                    have H1 : (if x12_4 < (x7_2.length : Int) then (lambrequinref10_Parts.l3 k4 a0 x5_1 x7_2 x8_2 x9_3 x10_3 (rdOf false x7_2 x12_4) (wrap64 (x12_4 + 1))) else (none)) = some r := by rw [if_neg (show ¬ (false = true) by decide)] at H; exact H
                                                    clear H
                                                    have H := H1
                                                    clear H1
                                                    by_cases c32 : x12_4 < (x7_2.length : Int)
                                                    · rw [if_pos c32] at H
                                                      have c32b0 : decide (x12_4 < (x7_2.length : Int)) = true := decide_eq_true c32
                                                      clear c32
                                                      have H' := Aside0.mk H
                                                      clear H
                                                      obtain ⟨Ao33, co33, eo33⟩ := Kd.S_slice HO_5.out
                                                      subst eo33
                                                      have p351 : 0 ≤ (x10_3 : Int) := of_decide_eq_true (by first | (with_reducible assumption) | assumption)
                                                      have q351 : x10_3 < (x5_1.length : Int) := of_decide_eq_true (by first | (with_reducible assumption) | assumption)
                                                      obtain ⟨ad351, A351_0, c351_0, e351, hx351_0, hl351_0, hi351_0⟩ := at_L6 (Kd.S_reads' HO_5.out).2.2 x10_3 p351 q351
                                                      cases e351
                                                      obtain ⟨ce351, hce351, hMe351, hcc351⟩ := Kd.S_get HO_5.out [] x10_3 p351 (by first | exact q351 | exact of_decide_eq_true (by first | (with_reducible assumption) | assumption) | (have e_ := (Kd.S_reads' HO_5.out).1; omega))
                                                      obtain ⟨ve351_0, rfl, ge351_0⟩ := hMe351
                                                      have hv351_0 := hcc351 0 _ rfl
                                                      rw [Nat.add_zero, show ((Kd.slice 4 Kd.bool)).sz = 1 from rfl, Nat.mul_one] at hv351_0
                                                      replace hv351_0 := Option.some.inj (hv351_0.symm.trans hx351_0)
                                                      rw [hv351_0] at ge351_0
                                                      have HL351_0 := Aside0.mk (show Kd.R Kd.bool 4 _ _ _ _ (rd_L6 x5_1 x10_3) from ge351_0)
                                                      clear hv351_0 ge351_0
                                                      clear hcc351 hce351
                                                      have HR351_0 := Aside0.mk hi351_0
                                                      have HC351_0 := Aside0.mk hl351_0
                                                      clear hi351_0 hl351_0
                                                      replace p351 := eq_true p351
                                                      replace q351 := eq_true q351
                                                      have p352 : 0 ≤ (x12_4 : Int) := of_decide_eq_true (by first | (with_reducible assumption) | assumption)
                                                      have q352 : x12_4 < ((rd_L6 x5_1 x10_3).length : Int) := of_decide_eq_true (by first | (with_reducible assumption) | assumption)
                                                      obtain ⟨ad352, e352, hx352_0⟩ := Kd.at_bool (by repeat (first | (with_reducible exact HR351_0.out) | (with_reducible refine Kd.C_alloc ?_ _) | (with_reducible refine Kd.C_drewN ?_ _) | (with_reducible refine Kd.C_drew ?_) | exact HR351_0.out)) x12_4 p352 q352
                                                      (try rw [← Nbq25.out] at hx352_0)
                                                      (try rw [← Nbq29.out] at hx352_0)
                                                      cases e352
                                                      replace p352 := eq_true p352
                                                      replace q352 := eq_true q352
                                                      have p353 : 0 ≤ (x12_4 : Int) := of_decide_eq_true (by first | (with_reducible assumption) | assumption)
                                                      have q353 : x12_4 < (x5_1.length : Int) := of_decide_eq_true (by first | (with_reducible assumption) | assumption)
                                                      obtain ⟨ad353, A353_0, c353_0, e353, hx353_0, hl353_0, hi353_0⟩ := at_L6 (Kd.S_reads' HO_5.out).2.2 x12_4 p353 q353
                                                      obtain rfl : ad351 = ad353 := (by injection e353)
                                                      obtain ⟨ce353, hce353, hMe353, hcc353⟩ := Kd.S_get HO_5.out [] x12_4 p353 (by first | exact q353 | exact of_decide_eq_true (by first | (with_reducible assumption) | assumption) | (have e_ := (Kd.S_reads' HO_5.out).1; omega))
                                                      obtain ⟨ve353_0, rfl, ge353_0⟩ := hMe353
                                                      have hv353_0 := hcc353 0 _ rfl
                                                      rw [Nat.add_zero, show ((Kd.slice 4 Kd.bool)).sz = 1 from rfl, Nat.mul_one] at hv353_0
                                                      replace hv353_0 := Option.some.inj (hv353_0.symm.trans hx353_0)
                                                      rw [hv353_0] at ge353_0
                                                      have HL353_0 := Aside0.mk (show Kd.R Kd.bool 4 _ _ _ _ (rd_L6 x5_1 x12_4) from ge353_0)
                                                      clear hv353_0 ge353_0
                                                      clear hcc353 hce353
                                                      have HR353_0 := Aside0.mk hi353_0
                                                      have HC353_0 := Aside0.mk hl353_0
                                                      clear hi353_0 hl353_0
                                                      replace p353 := eq_true p353
                                                      replace q353 := eq_true q353
                                                      have p354 : 0 ≤ (x10_3 : Int) := of_decide_eq_true (by first | (with_reducible assumption) | assumption)
                                                      have q354 : x10_3 < ((rd_L6 x5_1 x12_4).length : Int) := of_decide_eq_true (by first | (with_reducible assumption) | assumption)
                                                      obtain ⟨ad354, e354, hx354_0⟩ := Kd.at_bool (by repeat (first | (with_reducible exact HR353_0.out) | (with_reducible refine Kd.C_alloc ?_ _) | (with_reducible refine Kd.C_drewN ?_ _) | (with_reducible refine Kd.C_drew ?_) | exact HR353_0.out)) x10_3 p354 q354
                                                      (try rw [← Nbq25.out] at hx354_0)
                                                      (try rw [← Nbq29.out] at hx354_0)
                                                      cases e354
                                                      replace p354 := eq_true p354
                                                      replace q354 := eq_true q354
                                                      have p355 : 0 ≤ (x12_4 : Int) := of_decide_eq_true (by first | (with_reducible assumption) | assumption)
                                                      have q355 : x12_4 < (x7_2.length : Int) := of_decide_eq_true (by first | (with_reducible assumption) | assumption)
                                                      obtain ⟨ad355, e355, hx355_0⟩ := Kd.at_bool (Kd.R_reads' HO_7.out).2.2 x12_4 p355 q355
                                                      (try rw [← Nbq25.out] at hx355_0)
                                                      (try rw [← Nbq29.out] at hx355_0)
                                                      obtain rfl : ad350 = ad355 := (by injection e355)
                                                      replace p355 := eq_true p355
                                                      replace q355 := eq_true q355
                                                      go_wp2
                                                      go_roundg k4
                                                      case measure => have := HK1.out; have := HK2.out; have := HK3.out; have := HK4.out; omega
                                                      case rel => exact ⟨(rdOf false x7_2 x12_4), (wrap64 (x12_4 + 1)), (by first | rfl | (simp; done) | (simp [*]; done)), (by first | rfl | (simp; done) | (simp [*]; done)), H', ⟨by have := HK1.out; have := HK2.out; have := HK3.out; have := HK4.out; omega⟩, ⟨by (with_reducible repeat (first | apply Kd.S_alloc | apply Kd.S_drewN | apply Kd.S_drew)); exact HO_5.out⟩, ⟨by (with_reducible repeat (first | apply Kd.R_alloc | apply Kd.R_drewN | apply Kd.R_drew)); exact HO_7.out⟩, ⟨by (with_reducible repeat (first | apply Kd.S_alloc | apply Kd.S_drewN | apply Kd.S_drew)); exact HO_8.out⟩, ⟨by repeat (first | (with_reducible first | exact HB.out | apply below_alloc | apply pw_below_drewN | apply below_drew1) | exact HB.out)⟩⟩
                                                    · rw [if_neg c32] at H
                                                      exact absurd H (by simp)
                                                · rw [if_neg c28] at H
                                                  exact absurd H (by simp)
                                              · rw [if_neg c27] at H
                                                exact absurd H (by simp)
                                            · replace c26 := Bool.eq_false_iff.mpr c26
                                              subst c26
                                              have H1 : (lambrequinref10_Parts.l3 k4 a0 x5_1 x7_2 x8_2 x9_3 x10_3 true (wrap64 (x12_4 + 1))) = some r := by rw [if_neg (show ¬ (false = true) by decide)] at H; exact H
                                              clear H
                                              have H := H1
                                              clear H1
                                              have H' := Aside0.mk H
                                              clear H
                                              obtain ⟨Ao34, co34, eo34⟩ := Kd.S_slice HO_5.out
                                              subst eo34
                                              have p351 : 0 ≤ (x10_3 : Int) := of_decide_eq_true (by first | (with_reducible assumption) | assumption)
                                              have q351 : x10_3 < (x5_1.length : Int) := of_decide_eq_true (by first | (with_reducible assumption) | assumption)
                                              obtain ⟨ad351, A351_0, c351_0, e351, hx351_0, hl351_0, hi351_0⟩ := at_L6 (Kd.S_reads' HO_5.out).2.2 x10_3 p351 q351
                                              cases e351
                                              obtain ⟨ce351, hce351, hMe351, hcc351⟩ := Kd.S_get HO_5.out [] x10_3 p351 (by first | exact q351 | exact of_decide_eq_true (by first | (with_reducible assumption) | assumption) | (have e_ := (Kd.S_reads' HO_5.out).1; omega))
                                              obtain ⟨ve351_0, rfl, ge351_0⟩ := hMe351
                                              have hv351_0 := hcc351 0 _ rfl
                                              rw [Nat.add_zero, show ((Kd.slice 4 Kd.bool)).sz = 1 from rfl, Nat.mul_one] at hv351_0
                                              replace hv351_0 := Option.some.inj (hv351_0.symm.trans hx351_0)
                                              rw [hv351_0] at ge351_0
                                              have HL351_0 := Aside0.mk (show Kd.R Kd.bool 4 _ _ _ _ (rd_L6 x5_1 x10_3) from ge351_0)
                                              clear hv351_0 ge351_0
                                              clear hcc351 hce351
                                              have HR351_0 := Aside0.mk hi351_0
                                              have HC351_0 := Aside0.mk hl351_0
                                              clear hi351_0 hl351_0
                                              replace p351 := eq_true p351
                                              replace q351 := eq_true q351
                                              have p352 : 0 ≤ (x12_4 : Int) := of_decide_eq_true (by first | (with_reducible assumption) | assumption)
                                              have q352 : x12_4 < ((rd_L6 x5_1 x10_3).length : Int) := of_decide_eq_true (by first | (with_reducible assumption) | assumption)
                                              obtain ⟨ad352, e352, hx352_0⟩ := Kd.at_bool (by repeat (first | (with_reducible exact HR351_0.out) | (with_reducible refine Kd.C_alloc ?_ _) | (with_reducible refine Kd.C_drewN ?_ _) | (with_reducible refine Kd.C_drew ?_) | exact HR351_0.out)) x12_4 p352 q352
                                              (try rw [← Nbq25.out] at hx352_0)
                                              cases e352
                                              replace p352 := eq_true p352
                                              replace q352 := eq_true q352
                                              go_wp2
                                              go_roundg k4
                                              case measure => have := HK1.out; have := HK2.out; have := HK3.out; have := HK4.out; omega
                                              case rel => exact ⟨(true), (wrap64 (x12_4 + 1)), (by first | rfl | (simp; done) | (simp [*]; done)), (by first | rfl | (simp; done) | (simp [*]; done)), H', ⟨by have := HK1.out; have := HK2.out; have := HK3.out; have := HK4.out; omega⟩, ⟨by (with_reducible repeat (first | apply Kd.S_alloc | apply Kd.S_drewN | apply Kd.S_drew)); exact HO_5.out⟩, ⟨by (with_reducible repeat (first | apply Kd.R_alloc | apply Kd.R_drewN | apply Kd.R_drew)); exact HO_7.out⟩, ⟨by (with_reducible repeat (first | apply Kd.S_alloc | apply Kd.S_drewN | apply Kd.S_drew)); exact HO_8.out⟩, ⟨by repeat (first | (with_reducible first | exact HB.out | apply below_alloc | apply pw_below_drewN | apply below_drew1) | exact HB.out)⟩⟩
                                          · rw [if_neg c24] at H
                                            exact absurd H (by simp)
                                        · rw [if_neg c23] at H
                                          exact absurd H (by simp)
                                      · rw [if_neg c22] at H
                                        exact absurd H (by simp)
                                    · rw [if_neg c21] at H
                                      exact absurd H (by simp)
                                  · replace c20 := Bool.eq_false_iff.mpr c20
                                    subst c20
                                    have H1 : (lambrequinref10_Parts.l3 k4 a0 x5_1 x7_2 x8_2 x9_3 x10_3 false (wrap64 (x12_4 + 1))) = some r := by rw [if_neg (show ¬ (false = true) by decide)] at H; exact H
                                    clear H
                                    have H := H1
                                    clear H1
                                    have H' := Aside0.mk H
                                    clear H
                                    go_wp2
                                    go_roundg k4
                                    case measure => have := HK1.out; have := HK2.out; have := HK3.out; have := HK4.out; omega
                                    case rel => exact ⟨(false), (wrap64 (x12_4 + 1)), (by first | rfl | (simp; done) | (simp [*]; done)), (by first | rfl | (simp; done) | (simp [*]; done)), H', ⟨by have := HK1.out; have := HK2.out; have := HK3.out; have := HK4.out; omega⟩, ⟨by (with_reducible repeat (first | apply Kd.S_alloc | apply Kd.S_drewN | apply Kd.S_drew)); exact HO_5.out⟩, ⟨by (with_reducible repeat (first | apply Kd.R_alloc | apply Kd.R_drewN | apply Kd.R_drew)); exact HO_7.out⟩, ⟨by (with_reducible repeat (first | apply Kd.S_alloc | apply Kd.S_drewN | apply Kd.S_drew)); exact HO_8.out⟩, ⟨by repeat (first | (with_reducible first | exact HB.out | apply below_alloc | apply pw_below_drewN | apply below_drew1) | exact HB.out)⟩⟩
                                · rw [if_neg c19] at H
                                  have c19b0 : decide (x12_4 < a0) = false := decide_eq_false c19
                                  clear c19
                                  by_cases c35 : x11_4 = true
                                  · subst c35
                                    have H1 : (lambrequinref10_Parts.l2 k4 a0 x5_1 x7_2 x8_2 x10_3 (wrap64 (x10_3 - 1))) = some r := by rw [if_pos rfl] at H; exact H
                                    clear H
                                    have H := H1
                                    clear H1
                                    have H' := Aside0.mk H
                                    clear H
                                    go_wp2
                                    go_roundg k4
                                    case measure => have := HK1.out; have := HK2.out; have := HK3.out; have := HK4.out; omega
                                    case rel => exact ⟨(x10_3), (wrap64 (x10_3 - 1)), (by first | rfl | (simp; done) | (simp [*]; done)), (by first | rfl | (simp; done) | (simp [*]; done)), H', ⟨by have := HK1.out; have := HK2.out; have := HK3.out; have := HK4.out; omega⟩, ⟨by (with_reducible repeat (first | apply Kd.S_alloc | apply Kd.S_drewN | apply Kd.S_drew)); exact HO_5.out⟩, ⟨by (with_reducible repeat (first | apply Kd.R_alloc | apply Kd.R_drewN | apply Kd.R_drew)); exact HO_7.out⟩, ⟨by (with_reducible repeat (first | apply Kd.S_alloc | apply Kd.S_drewN | apply Kd.S_drew)); exact HO_8.out⟩, ⟨by repeat (first | (with_reducible first | exact HB.out | apply below_alloc | apply pw_below_drewN | apply below_drew1) | exact HB.out)⟩⟩
                                  · replace c35 := Bool.eq_false_iff.mpr c35
                                    subst c35
                                    have H1 : (lambrequinref10_Parts.l2 k4 a0 x5_1 x7_2 x8_2 x9_3 (wrap64 (x10_3 - 1))) = some r := by rw [if_neg (show ¬ (false = true) by decide)] at H; exact H
                                    clear H
                                    have H := H1
                                    clear H1
                                    have H' := Aside0.mk H
                                    clear H
                                    go_wp2
                                    go_roundg k4
                                    case measure => have := HK1.out; have := HK2.out; have := HK3.out; have := HK4.out; omega
                                    case rel => exact ⟨(x9_3), (wrap64 (x10_3 - 1)), (by first | rfl | (simp; done) | (simp [*]; done)), (by first | rfl | (simp; done) | (simp [*]; done)), H', ⟨by have := HK1.out; have := HK2.out; have := HK3.out; have := HK4.out; omega⟩, ⟨by (with_reducible repeat (first | apply Kd.S_alloc | apply Kd.S_drewN | apply Kd.S_drew)); exact HO_5.out⟩, ⟨by (with_reducible repeat (first | apply Kd.R_alloc | apply Kd.R_drewN | apply Kd.R_drew)); exact HO_7.out⟩, ⟨by (with_reducible repeat (first | apply Kd.S_alloc | apply Kd.S_drewN | apply Kd.S_drew)); exact HO_8.out⟩, ⟨by repeat (first | (with_reducible first | exact HB.out | apply below_alloc | apply pw_below_drewN | apply below_drew1) | exact HB.out)⟩⟩
                          · rw [if_neg c17] at H
                            exact absurd H (by simp)
                        · rw [if_neg c16] at H
                          exact absurd H (by simp)
                      · rw [if_neg c15] at H
                        have c15b0 : decide (0 ≤ x10_3) = false := decide_eq_false c15
                        clear c15
                        by_cases c36 : x9_3 < 0
                        · rw [if_pos c36] at H
                          have c36b0 : decide (x9_3 < 0) = true := decide_eq_true c36
                          clear c36
                          obtain rfl := Option.some.inj H
                          go_wp2
                          go_ret
                          exact ⟨_, by first | rfl | (simp [errW_none, errW_some] <;> rfl) | (simp [*, errW_none, errW_some] <;> rfl), by (with_reducible repeat (first | apply Kd.S_alloc | apply Kd.S_drewN | apply Kd.S_drew)); exact HO_8.out, by repeat (first | (with_reducible first | exact HB.out | apply below_alloc | apply pw_below_drewN | apply below_drew1) | exact HB.out)⟩
                        · rw [if_neg c36] at H
                          have c36b0 : decide (x9_3 < 0) = false := decide_eq_false c36
                          clear c36
                          have H' := Aside0.mk H
                          clear H
                          go_wp2
                          go_loopg [13, 14] k3 (fun kq v13 v14 w' => ∃ (x7_4 : List Bool) (x13_4 : List Int) (x14_4 : Int), v14 = .int .i64 x14_4 ∧ Aside0 (lambrequinref10_Parts.l4 kq a0 x5_1 x7_4 x8_2 x9_3 x13_4 x14_4 = some r) ∧ Aside0 (kq ≤ k3) ∧ Aside0 (Kd.S (Kd.slice 4 Kd.bool) 40 w' w.heap.size (fun k_ => some k_ ≠ (v348 : Value).ownBlock) u5 x5_1) ∧ Aside0 (Kd.R Kd.bool 4 w' w.heap.size (fun _ => True) v348 x7_4) ∧ Aside0 (Kd.S (Kd.slice 3 (Kd.int .i64)) 35 w' w.heap.size (fun k_ => some k_ ≠ (v13 : Value).ownBlock) u8 x8_2) ∧ Aside0 (Kd.R (Kd.int .i64) 3 w' w.heap.size (fun _ => True) v13 x13_4) ∧ Aside0 (Below w.heap.size w w'))
                          case atStart => exact ⟨(x7_2), (([] : List Int)), (0), (by first | rfl | (simp; done) | (simp [*]; done)), H', ⟨Nat.le_refl _⟩, ⟨by (with_reducible repeat (first | apply Kd.S_alloc | apply Kd.S_drewN | apply Kd.S_drew)); exact HO_5.out⟩, ⟨by (with_reducible repeat (first | apply Kd.R_alloc | apply Kd.R_drewN | apply Kd.R_drew)); exact HO_7.out⟩, ⟨by (with_reducible repeat (first | apply Kd.S_alloc | apply Kd.S_drewN | apply Kd.S_drew)); exact Kd.S_mono HO_8.out (fun _ hk => (by simp [Value.ownBlock]))⟩, ⟨by first | exact Kd.R_nil _ _ _ _ _ | exact Kd.N_nil _ _ _ _ _ | exact Kd.V_nil _ _ _ _ _ | exact Kd.Q_nil _ _ _ _ _ | exact Kd.S_nil _ _ _ _ _⟩, ⟨by repeat (first | (with_reducible first | exact HB.out | apply below_alloc | apply pw_below_drewN | apply below_drew1) | exact HB.out)⟩⟩
                          case round =>
                            clear H'
                            try clear c1
                            try clear c2
                            try clear p2
                            try clear q2
                            try clear c3
                            try clear p3
                            try clear q3
                            try clear hx3
                            try clear c4
                            try clear c5
                            try clear c5b0
                            try clear p6
                            try clear c7
                            try clear c11
                            try clear c11b0
                            try clear c11b1
                            try clear c12
                            try clear c12b0
                            try clear c12b1
                            try clear c15
                            try clear c15b0
                            try clear c16
                            try clear c16b0
                            try clear c17
                            try clear c17b0
                            try clear c19
                            try clear c19b0
                            try clear c20
                            try clear c21
                            try clear c21b0
                            try clear c22
                            try clear c22b0
                            try clear c23
                            try clear c23b0
                            try clear c24
                            try clear c24b0
                            try clear q25
                            try clear c26
                            try clear c27
                            try clear c27b0
                            try clear c28
                            try clear c28b0
                            try clear q29
                            try clear c30
                            try clear c32
                            try clear c32b0
                            try clear c35
                            try clear p35
                            try clear q35
                            try clear hx35
                            try clear c36
                            try clear c36b0
                            try clear hx350_0
                            try clear hx351_0
                            try clear hx352_0
                            try clear hx353_0
                            try clear hx354_0
                            try clear hx355_0
                            try clear p2
                            try clear p3
                            try clear p350
                            try clear p351
                            try clear p352
                            try clear p353
                            try clear p354
                            try clear p355
                            try clear p6
                            try clear q3
                            try clear q350
                            try clear q351
                            try clear q352
                            try clear q353
                            try clear q354
                            try clear q355
                            obtain ⟨x7_4, x13_4, x14_4, rfl, HA, HK4, HO_5, HO_7, HO_8, HO_13, HB⟩ := hrel
                            cases gk with
                            | zero => exact absurd HA.out (by simp [lambrequinref10_Parts.l4])
                            | succ k4 =>
                              have H := HA.out
                              clear HA
                              simp only [lambrequinref10_Parts.l4] at H
                              by_cases c37 : x14_4 < a0
                              · rw [if_pos c37] at H
                                have c37b0 : decide (x14_4 < a0) = true := decide_eq_true c37
                                clear c37
                                by_cases c38 : 0 ≤ x9_3
                                · rw [if_pos c38] at H
                                  have c38b0 : decide (0 ≤ x9_3) = true := decide_eq_true c38
                                  clear c38
                                  by_cases c39 : x9_3 < (x5_1.length : Int)
                                  · rw [if_pos c39] at H
                                    have c39b0 : decide (x9_3 < (x5_1.length : Int)) = true := decide_eq_true c39
                                    clear c39
                                    by_cases c40 : 0 ≤ x14_4
                                    · rw [if_pos c40] at H
                                      have c40b0 : decide (0 ≤ x14_4) = true := decide_eq_true c40
                                      clear c40
                                      by_cases c41 : x14_4 < ((rd_L6 x5_1 x9_3).length : Int)
                                      · rw [if_pos c41] at H
                                        have c41b0 : decide (x14_4 < ((rd_L6 x5_1 x9_3).length : Int)) = true := decide_eq_true c41
                                        clear c41
                                        obtain ⟨bq42, hbq42⟩ : ∃ b_ : Bool, b_ = (rdOf false (rd_L6 x5_1 x9_3) x14_4) := ⟨_, rfl⟩
                                        replace H : (if bq42 = true then (if x14_4 < (x5_1.length : Int) then (if x9_3 < ((rd_L6 x5_1 x14_4).length : Int) then (if rdOf false (rd_L6 x5_1 x14_4) x9_3 = true then (if x13_4.length < 17592186044416 then (if x14_4 < (x7_4.length : Int) then (lambrequinref10_Parts.l4 k4 a0 x5_1 (x7_4.set (x14_4 : Int).toNat true) x8_2 x9_3 (x13_4 ++ [x14_4]) (wrap64 (x14_4 + 1))) else (none)) else (none)) else (lambrequinref10_Parts.l4 k4 a0 x5_1 x7_4 x8_2 x9_3 x13_4 (wrap64 (x14_4 + 1)))) else (none)) else (none)) else (lambrequinref10_Parts.l4 k4 a0 x5_1 x7_4 x8_2 x9_3 x13_4 (wrap64 (x14_4 + 1)))) = some r := by rw [← hbq42] at H; exact H
                                        have Nbq42 := Aside0.mk hbq42
                                        clear hbq42
                                        by_cases c43 : bq42 = true
                                        · subst c43
                                          have H1 : (if x14_4 < (x5_1.length : Int) then (if x9_3 < ((rd_L6 x5_1 x14_4).length : Int) then (if rdOf false (rd_L6 x5_1 x14_4) x9_3 = true then (if x13_4.length < 17592186044416 then (if x14_4 < (x7_4.length : Int) then (lambrequinref10_Parts.l4 k4 a0 x5_1 (x7_4.set (x14_4 : Int).toNat true) x8_2 x9_3 (x13_4 ++ [x14_4]) (wrap64 (x14_4 + 1))) else (none)) else (none)) else (lambrequinref10_Parts.l4 k4 a0 x5_1 x7_4 x8_2 x9_3 x13_4 (wrap64 (x14_4 + 1)))) else (none)) else (none)) = some r := by rw [if_pos rfl] at H; exact H
                                          clear H
                                          have H := H1
                                          clear H1
                                          by_cases c44 : x14_4 < (x5_1.length : Int)
                                          · rw [if_pos c44] at H
                                            have c44b0 : decide (x14_4 < (x5_1.length : Int)) = true := decide_eq_true c44
                                            clear c44
                                            by_cases c45 : x9_3 < ((rd_L6 x5_1 x14_4).length : Int)
                                            · rw [if_pos c45] at H
                                              have c45b0 : decide (x9_3 < ((rd_L6 x5_1 x14_4).length : Int)) = true := decide_eq_true c45
                                              clear c45
                                              obtain ⟨bq46, hbq46⟩ : ∃ b_ : Bool, b_ = (rdOf false (rd_L6 x5_1 x14_4) x9_3) := ⟨_, rfl⟩
                                              replace H : (if bq46 = true then (if x13_4.length < 17592186044416 then (if x14_4 < (x7_4.length : Int) then (lambrequinref10_Parts.l4 k4 a0 x5_1 (x7_4.set (x14_4 : Int).toNat true) x8_2 x9_3 (x13_4 ++ [x14_4]) (wrap64 (x14_4 + 1))) else (none)) else (none)) else (lambrequinref10_Parts.l4 k4 a0 x5_1 x7_4 x8_2 x9_3 x13_4 (wrap64 (x14_4 + 1)))) = some r := by rw [← hbq46] at H; exact H
                                              have Nbq46 := Aside0.mk hbq46
                                              clear hbq46
                                              by_cases c47 : bq46 = true
                                              · subst c47
                                                have H1 : (if x13_4.length < 17592186044416 then (if x14_4 < (x7_4.length : Int) then (lambrequinref10_Parts.l4 k4 a0 x5_1 (x7_4.set (x14_4 : Int).toNat true) x8_2 x9_3 (x13_4 ++ [x14_4]) (wrap64 (x14_4 + 1))) else (none)) else (none)) = some r := by rw [if_pos rfl] at H; exact H
                                                clear H
                                                have H := H1
                                                clear H1
                                                by_cases c48 : x13_4.length < 17592186044416
                                                · rw [if_pos c48] at H
                                                  have LMc48 := Aside0.mk c48
                                                  clear c48
                                                  obtain ⟨y360, hy360⟩ : ∃ y_ : List Int, y_ = (x13_4 ++ [x14_4]) := ⟨_, rfl⟩
                                                  replace H : (if x14_4 < (x7_4.length : Int) then (lambrequinref10_Parts.l4 k4 a0 x5_1 (x7_4.set (x14_4 : Int).toNat true) x8_2 x9_3 y360 (wrap64 (x14_4 + 1))) else (none)) = some r := by first | (rw [hy360]; with_reducible exact H) | (have H2_ := (Option.bind_some _ _).symm.trans H; rw [hy360]; with_reducible exact H2_) | (have H2_ := (Option.bind_some _ _).symm.trans H; with_reducible exact H2_) | with_reducible exact H | (rw [hy360]; exact H) | exact H
                                                  have Ny360 := Aside0.mk hy360
                                                  clear hy360
                                                  by_cases c49 : x14_4 < (x7_4.length : Int)
                                                  · rw [if_pos c49] at H
                                                    have c49b0 : decide (x14_4 < (x7_4.length : Int)) = true := decide_eq_true c49
                                                    clear c49
                                                    obtain ⟨y363, hy363⟩ : ∃ y_ : List Bool, y_ = (x7_4.set (x14_4 : Int).toNat true) := ⟨_, rfl⟩
                                                    replace H : (lambrequinref10_Parts.l4 k4 a0 x5_1 y363 x8_2 x9_3 y360 (wrap64 (x14_4 + 1))) = some r := by first | (rw [hy363]; with_reducible exact H) | (have H2_ := (Option.bind_some _ _).symm.trans H; rw [hy363]; with_reducible exact H2_) | (have H2_ := (Option.bind_some _ _).symm.trans H; with_reducible exact H2_) | with_reducible exact H | (rw [hy363]; exact H) | exact H
                                                    have Ny363 := Aside0.mk hy363
                                                    clear hy363
                                                    have H' := Aside0.mk H
                                                    clear H
                                                    obtain ⟨Ao51, co51, eo51⟩ := Kd.S_slice HO_5.out
                                                    subst eo51
                                                    have p356 : 0 ≤ (x9_3 : Int) := of_decide_eq_true (by first | (with_reducible assumption) | assumption)
                                                    have q356 : x9_3 < (x5_1.length : Int) := of_decide_eq_true (by first | (with_reducible assumption) | assumption)
                                                    obtain ⟨ad356, A356_0, c356_0, e356, hx356_0, hl356_0, hi356_0⟩ := at_L6 (Kd.S_reads' HO_5.out).2.2 x9_3 p356 q356
                                                    cases e356
                                                    obtain ⟨ce356, hce356, hMe356, hcc356⟩ := Kd.S_get HO_5.out [] x9_3 p356 (by first | exact q356 | exact of_decide_eq_true (by first | (with_reducible assumption) | assumption) | (have e_ := (Kd.S_reads' HO_5.out).1; omega))
                                                    obtain ⟨ve356_0, rfl, ge356_0⟩ := hMe356
                                                    have hv356_0 := hcc356 0 _ rfl
                                                    rw [Nat.add_zero, show ((Kd.slice 4 Kd.bool)).sz = 1 from rfl, Nat.mul_one] at hv356_0
                                                    replace hv356_0 := Option.some.inj (hv356_0.symm.trans hx356_0)
                                                    rw [hv356_0] at ge356_0
                                                    have HL356_0 := Aside0.mk (show Kd.R Kd.bool 4 _ _ _ _ (rd_L6 x5_1 x9_3) from ge356_0)
                                                    clear hv356_0 ge356_0
                                                    clear hcc356 hce356
                                                    have HR356_0 := Aside0.mk hi356_0
                                                    have HC356_0 := Aside0.mk hl356_0
                                                    clear hi356_0 hl356_0
                                                    replace p356 := eq_true p356
                                                    replace q356 := eq_true q356
                                                    have p357 : 0 ≤ (x14_4 : Int) := of_decide_eq_true (by first | (with_reducible assumption) | assumption)
                                                    have q357 : x14_4 < ((rd_L6 x5_1 x9_3).length : Int) := of_decide_eq_true (by first | (with_reducible assumption) | assumption)
                                                    obtain ⟨ad357, e357, hx357_0⟩ := Kd.at_bool (by repeat (first | (with_reducible exact HR356_0.out) | (with_reducible refine Kd.C_alloc ?_ _) | (with_reducible refine Kd.C_drewN ?_ _) | (with_reducible refine Kd.C_drew ?_) | exact HR356_0.out)) x14_4 p357 q357
                                                    (try rw [← Nbq42.out] at hx357_0)
                                                    (try rw [← Nbq46.out] at hx357_0)
                                                    cases e357
                                                    replace p357 := eq_true p357
                                                    replace q357 := eq_true q357
                                                    have p358 : 0 ≤ (x14_4 : Int) := of_decide_eq_true (by first | (with_reducible assumption) | assumption)
                                                    have q358 : x14_4 < (x5_1.length : Int) := of_decide_eq_true (by first | (with_reducible assumption) | assumption)
                                                    obtain ⟨ad358, A358_0, c358_0, e358, hx358_0, hl358_0, hi358_0⟩ := at_L6 (Kd.S_reads' HO_5.out).2.2 x14_4 p358 q358
                                                    obtain rfl : ad356 = ad358 := (by injection e358)
                                                    obtain ⟨ce358, hce358, hMe358, hcc358⟩ := Kd.S_get HO_5.out [] x14_4 p358 (by first | exact q358 | exact of_decide_eq_true (by first | (with_reducible assumption) | assumption) | (have e_ := (Kd.S_reads' HO_5.out).1; omega))
                                                    obtain ⟨ve358_0, rfl, ge358_0⟩ := hMe358
                                                    have hv358_0 := hcc358 0 _ rfl
                                                    rw [Nat.add_zero, show ((Kd.slice 4 Kd.bool)).sz = 1 from rfl, Nat.mul_one] at hv358_0
                                                    replace hv358_0 := Option.some.inj (hv358_0.symm.trans hx358_0)
                                                    rw [hv358_0] at ge358_0
                                                    have HL358_0 := Aside0.mk (show Kd.R Kd.bool 4 _ _ _ _ (rd_L6 x5_1 x14_4) from ge358_0)
                                                    clear hv358_0 ge358_0
                                                    clear hcc358 hce358
                                                    have HR358_0 := Aside0.mk hi358_0
                                                    have HC358_0 := Aside0.mk hl358_0
                                                    clear hi358_0 hl358_0
                                                    replace p358 := eq_true p358
                                                    replace q358 := eq_true q358
                                                    have p359 : 0 ≤ (x9_3 : Int) := of_decide_eq_true (by first | (with_reducible assumption) | assumption)
                                                    have q359 : x9_3 < ((rd_L6 x5_1 x14_4).length : Int) := of_decide_eq_true (by first | (with_reducible assumption) | assumption)
                                                    obtain ⟨ad359, e359, hx359_0⟩ := Kd.at_bool (by repeat (first | (with_reducible exact HR358_0.out) | (with_reducible refine Kd.C_alloc ?_ _) | (with_reducible refine Kd.C_drewN ?_ _) | (with_reducible refine Kd.C_drew ?_) | exact HR358_0.out)) x9_3 p359 q359
                                                    (try rw [← Nbq42.out] at hx359_0)
                                                    (try rw [← Nbq46.out] at hx359_0)
                                                    cases e359
                                                    replace p359 := eq_true p359
                                                    replace q359 := eq_true q359
                                                    go_wp2_with (first | ((with_reducible refine gate_builtin (b := .append) (xs := #[.tmp 101, .tmp 103]) rfl ?_); at_builtin; refine Kd.R_append (Kd.int .i64) (w0 := w) w.heap.size rfl (.tmp 101) (.tmp 103) 35 3 (.int .i64 0) 8 rfl Try.underlying35 info3 rfl (by decide) (by omega) u13 x13_4 x14_4 [.int .i64 x14_4] (fun _ => True) (fun _ => False) rfl rfl ?aP (fun _ hk => hk.elim) ?aF ?aO ?aB ?aS ?aL ?_; (case aP => exact rfl); (case aB => exact (by repeat (first | (with_reducible first | exact HB.out | apply below_alloc | apply pw_below_drewN | apply below_drew1) | exact HB.out))); (case aF => exact (fun _ _ => trivial)); (case aO => exact (by (with_reducible repeat (first | apply Kd.R_alloc | apply Kd.R_drewN | apply Kd.R_drew)); exact HO_13.out)); (case aS => exact (below_size (by repeat (first | (with_reducible first | exact HB.out | apply below_alloc | apply pw_below_drewN | apply below_drew1) | exact HB.out)))); (case aL => have := LMc48.out; omega); intro v361 w52 ho hb hg hat; rw [← Ny360.out] at ho; have n0_ := Aside0.mk (Kd.S_over' (by (with_reducible repeat (first | apply Kd.S_alloc | apply Kd.S_drewN | apply Kd.S_drew)); exact HO_5.out) (Kd.R_typed (by (with_reducible repeat (first | apply Kd.R_alloc | apply Kd.R_drewN | apply Kd.R_drew)); exact HO_13.out)) (by decide) hg); have n1_ := Aside0.mk (Kd.R_over' (by (with_reducible repeat (first | apply Kd.R_alloc | apply Kd.R_drewN | apply Kd.R_drew)); exact HO_7.out) (Kd.R_typed (by (with_reducible repeat (first | apply Kd.R_alloc | apply Kd.R_drewN | apply Kd.R_drew)); exact HO_13.out)) (by decide) hg); have n2_ := Aside0.mk (Kd.S_after (ok := (fun _ => True)) (by (with_reducible repeat (first | apply Kd.S_alloc | apply Kd.S_drewN | apply Kd.S_drew)); exact Kd.S_mono HO_8.out (fun _ hk => ⟨trivial, hk⟩)) hg hat); have n3_ := Aside0.mk (Kd.R_over' (by (with_reducible repeat (first | apply Kd.R_alloc | apply Kd.R_drewN | apply Kd.R_drew)); exact HL356_0.out) (Kd.R_typed (by (with_reducible repeat (first | apply Kd.R_alloc | apply Kd.R_drewN | apply Kd.R_drew)); exact HO_13.out)) (by decide) hg); have n4_ := Aside0.mk (Kd.R_over' (by (with_reducible repeat (first | apply Kd.R_alloc | apply Kd.R_drewN | apply Kd.R_drew)); exact HL358_0.out) (Kd.R_typed (by (with_reducible repeat (first | apply Kd.R_alloc | apply Kd.R_drewN | apply Kd.R_drew)); exact HO_13.out)) (by decide) hg); have n5_ := Aside0.mk (hb); have n6_ := Aside0.mk (ho); clear HO_5; clear HO_7; clear HO_8; clear HL356_0; clear HL358_0; clear HB; clear HO_13; have HO_5 := n0_; have HO_7 := n1_; have HO_8 := n2_; have HL356_0 := n3_; have HL358_0 := n4_; have HB := n5_; have HO362 := n6_; clear n0_ n1_ n2_ n3_ n4_ n5_ n6_; clear ho hb hg hat; have p50 : 0 ≤ (x14_4 : Int) := of_decide_eq_true (by first | (with_reducible assumption) | assumption); have q50 : (x14_4 : Int) < ((x7_4.length : Int) : Int) := of_decide_eq_true (by first | (with_reducible assumption) | assumption); obtain ⟨go50, co50, eo50, gb50, gl50, cl50, HG50⟩ := Kd.R_form HO_7.out (by omega); (first | cases eo50 | (injection eo50 with ea_ en_ ec_; (first | subst ea_ | (injection ea_ with ea_; subst ea_)); subst ec_; clear en_)); have GB50 := Aside0.mk gb50; have GG50 := Aside0.mk HG50; clear gb50 gl50 HG50; obtain ⟨hx50_0, hf50_0⟩ := Kd.R_celln false HO_7.out (x14_4 : Int) p50 q50; replace p50 := eq_true p50; replace q50 := eq_true q50; obtain ⟨hy53_, hz53_⟩ := Kd.R_celln false HO_7.out (x14_4 : Int) (of_decide_eq_true (by first | (with_reducible assumption) | assumption)) (of_decide_eq_true (by first | (with_reducible assumption) | assumption)); have HP53 := Kd.R_putg HO_7.out (x14_4 : Int) true) | ((with_reducible refine gate_store (t := 4) (p := 107) rfl ?_); refine store_event (t := 4) (p := 107) (v := ?vo_w54) (w1 := (w52.setCell ⟨go50, (x14_4 : Int).toNat, none⟩ (.bool true))) ?hg ?ho ?hn ?hr ?_; (case ho => rfl); (case hg => rfl); (case hn => rfl); (case hr => first | (go_simp; done) | (go_simp; rfl)); intro w54 hw; have hg : w52.grownBy w54 (some go50) := (by rw [hw]; exact HP53.2); have hp_ : Kd.R Kd.bool 4 w54 w.heap.size (fun _ => True) (.slice (some ⟨go50, 0, none⟩) x7_4.length co50) y363 := (by rw [hw, Ny363.out]; exact HP53.1); clear HP53; have n0_ := Aside0.mk (Kd.S_after (v := (.slice (some ⟨go50, 0, none⟩) x7_4.length co50)) (v1 := (.slice (some ⟨go50, 0, none⟩) x7_4.length co50)) (ok := (fun _ => True)) (by (with_reducible repeat (first | apply Kd.S_alloc | apply Kd.S_drewN | apply Kd.S_drew)); exact Kd.S_mono HO_5.out (fun _ hk => ⟨trivial, hk⟩)) hg (.inl rfl)); have n1_ := Aside0.mk (hp_); have n2_ := Aside0.mk (Kd.S_over' (v := (.slice (some ⟨go50, 0, none⟩) x7_4.length co50)) (by (with_reducible repeat (first | apply Kd.S_alloc | apply Kd.S_drewN | apply Kd.S_drew)); exact HO_8.out) (Kd.R_typed HO_7.out) (by decide) hg); have n3_ := Aside0.mk (Kd.R_after (v := (.slice (some ⟨go50, 0, none⟩) x7_4.length co50)) (v1 := (.slice (some ⟨go50, 0, none⟩) x7_4.length co50)) (ok := (fun k_ => some k_ ≠ (.slice (some ad356) x5_1.length co51 : Value).ownBlock)) (by (with_reducible repeat (first | apply Kd.R_alloc | apply Kd.R_drewN | apply Kd.R_drew)); exact Kd.R_mono HL356_0.out (fun _ hk => ⟨hk.2, hk.1⟩)) hg (.inl rfl)); have n4_ := Aside0.mk (Kd.R_after (v := (.slice (some ⟨go50, 0, none⟩) x7_4.length co50)) (v1 := (.slice (some ⟨go50, 0, none⟩) x7_4.length co50)) (ok := (fun k_ => some k_ ≠ (.slice (some ad356) x5_1.length co51 : Value).ownBlock)) (by (with_reducible repeat (first | apply Kd.R_alloc | apply Kd.R_drewN | apply Kd.R_drew)); exact Kd.R_mono HL358_0.out (fun _ hk => ⟨hk.2, hk.1⟩)) hg (.inl rfl)); have n5_ := Aside0.mk (Kd.R_over' (v := (.slice (some ⟨go50, 0, none⟩) x7_4.length co50)) (by (with_reducible repeat (first | apply Kd.R_alloc | apply Kd.R_drewN | apply Kd.R_drew)); exact HO362.out) (Kd.R_typed HO_7.out) (by decide) hg); have n6_ := Aside0.mk ((by rw [hw]; exact below_set (HB.out) GB50.out : Below w.heap.size w w54)); clear HO_5; clear HO_7; clear HO_8; clear HL356_0; clear HL358_0; clear HO362; clear HB; have HO_5 := n0_; have HO_7 := n1_; have HO_8 := n2_; have HL356_0 := n3_; have HL358_0 := n4_; have HO362 := n5_; have HB := n6_; clear n0_ n1_ n2_ n3_ n4_ n5_ n6_; clear hg hw hp_))
                                                    go_roundg k4
                                                    case measure => have := HK1.out; have := HK2.out; have := HK3.out; have := HK4.out; omega
                                                    case rel => exact ⟨(y363), (y360), (wrap64 (x14_4 + 1)), (by first | rfl | (simp; done) | (simp [*]; done)), H', ⟨by have := HK1.out; have := HK2.out; have := HK3.out; have := HK4.out; omega⟩, ⟨by (with_reducible repeat (first | apply Kd.S_alloc | apply Kd.S_drewN | apply Kd.S_drew)); exact Kd.S_mono HO_5.out (fun _ hk => hk.2)⟩, ⟨by (with_reducible repeat (first | apply Kd.R_alloc | apply Kd.R_drewN | apply Kd.R_drew)); exact HO_7.out⟩, ⟨by (with_reducible repeat (first | apply Kd.S_alloc | apply Kd.S_drewN | apply Kd.S_drew)); exact Kd.S_mono HO_8.out (fun _ hk => hk.2)⟩, ⟨by (with_reducible repeat (first | apply Kd.R_alloc | apply Kd.R_drewN | apply Kd.R_drew)); exact HO362.out⟩, ⟨by repeat (first | (with_reducible first | exact HB.out | apply below_alloc | apply pw_below_drewN | apply below_drew1) | exact HB.out)⟩⟩
                                                  · rw [if_neg c49] at H
                                                    exact absurd H (by simp)
                                                · rw [if_neg c48] at H
                                                  exact absurd H (by simp)
                                              · replace c47 := Bool.eq_false_iff.mpr c47
                                                subst c47
                                                have H1 : (lambrequinref10_Parts.l4 k4 a0 x5_1 x7_4 x8_2 x9_3 x13_4 (wrap64 (x14_4 + 1))) = some r := by rw [if_neg (show ¬ (false = true) by decide)] at H; exact H
                                                clear H
                                                have H := H1
                                                clear H1
                                                have H' := Aside0.mk H
                                                clear H
                                                obtain ⟨Ao55, co55, eo55⟩ := Kd.S_slice HO_5.out
                                                subst eo55
                                                have p356 : 0 ≤ (x9_3 : Int) := of_decide_eq_true (by first | (with_reducible assumption) | assumption)
                                                have q356 : x9_3 < (x5_1.length : Int) := of_decide_eq_true (by first | (with_reducible assumption) | assumption)
                                                obtain ⟨ad356, A356_0, c356_0, e356, hx356_0, hl356_0, hi356_0⟩ := at_L6 (Kd.S_reads' HO_5.out).2.2 x9_3 p356 q356
                                                cases e356
                                                obtain ⟨ce356, hce356, hMe356, hcc356⟩ := Kd.S_get HO_5.out [] x9_3 p356 (by first | exact q356 | exact of_decide_eq_true (by first | (with_reducible assumption) | assumption) | (have e_ := (Kd.S_reads' HO_5.out).1; omega))
                                                obtain ⟨ve356_0, rfl, ge356_0⟩ := hMe356
                                                have hv356_0 := hcc356 0 _ rfl
                                                rw [Nat.add_zero, show ((Kd.slice 4 Kd.bool)).sz = 1 from rfl, Nat.mul_one] at hv356_0
                                                replace hv356_0 := Option.some.inj (hv356_0.symm.trans hx356_0)
                                                rw [hv356_0] at ge356_0
                                                have HL356_0 := Aside0.mk (show Kd.R Kd.bool 4 _ _ _ _ (rd_L6 x5_1 x9_3) from ge356_0)
                                                clear hv356_0 ge356_0
                                                clear hcc356 hce356
                                                have HR356_0 := Aside0.mk hi356_0
                                                have HC356_0 := Aside0.mk hl356_0
                                                clear hi356_0 hl356_0
                                                replace p356 := eq_true p356
                                                replace q356 := eq_true q356
                                                have p357 : 0 ≤ (x14_4 : Int) := of_decide_eq_true (by first | (with_reducible assumption) | assumption)
                                                have q357 : x14_4 < ((rd_L6 x5_1 x9_3).length : Int) := of_decide_eq_true (by first | (with_reducible assumption) | assumption)
                                                obtain ⟨ad357, e357, hx357_0⟩ := Kd.at_bool (by repeat (first | (with_reducible exact HR356_0.out) | (with_reducible refine Kd.C_alloc ?_ _) | (with_reducible refine Kd.C_drewN ?_ _) | (with_reducible refine Kd.C_drew ?_) | exact HR356_0.out)) x14_4 p357 q357
                                                (try rw [← Nbq42.out] at hx357_0)
                                                (try rw [← Nbq46.out] at hx357_0)
                                                cases e357
                                                replace p357 := eq_true p357
                                                replace q357 := eq_true q357
                                                have p358 : 0 ≤ (x14_4 : Int) := of_decide_eq_true (by first | (with_reducible assumption) | assumption)
                                                have q358 : x14_4 < (x5_1.length : Int) := of_decide_eq_true (by first | (with_reducible assumption) | assumption)
                                                obtain ⟨ad358, A358_0, c358_0, e358, hx358_0, hl358_0, hi358_0⟩ := at_L6 (Kd.S_reads' HO_5.out).2.2 x14_4 p358 q358
                                                obtain rfl : ad356 = ad358 := (by injection e358)
                                                obtain ⟨ce358, hce358, hMe358, hcc358⟩ := Kd.S_get HO_5.out [] x14_4 p358 (by first | exact q358 | exact of_decide_eq_true (by first | (with_reducible assumption) | assumption) | (have e_ := (Kd.S_reads' HO_5.out).1; omega))
                                                obtain ⟨ve358_0, rfl, ge358_0⟩ := hMe358
                                                have hv358_0 := hcc358 0 _ rfl
                                                rw [Nat.add_zero, show ((Kd.slice 4 Kd.bool)).sz = 1 from rfl, Nat.mul_one] at hv358_0
                                                replace hv358_0 := Option.some.inj (hv358_0.symm.trans hx358_0)
                                                rw [hv358_0] at ge358_0
                                                have HL358_0 := Aside0.mk (show Kd.R Kd.bool 4 _ _ _ _ (rd_L6 x5_1 x14_4) from ge358_0)
                                                clear hv358_0 ge358_0
                                                clear hcc358 hce358
                                                have HR358_0 := Aside0.mk hi358_0
                                                have HC358_0 := Aside0.mk hl358_0
                                                clear hi358_0 hl358_0
                                                replace p358 := eq_true p358
                                                replace q358 := eq_true q358
                                                have p359 : 0 ≤ (x9_3 : Int) := of_decide_eq_true (by first | (with_reducible assumption) | assumption)
                                                have q359 : x9_3 < ((rd_L6 x5_1 x14_4).length : Int) := of_decide_eq_true (by first | (with_reducible assumption) | assumption)
                                                obtain ⟨ad359, e359, hx359_0⟩ := Kd.at_bool (by repeat (first | (with_reducible exact HR358_0.out) | (with_reducible refine Kd.C_alloc ?_ _) | (with_reducible refine Kd.C_drewN ?_ _) | (with_reducible refine Kd.C_drew ?_) | exact HR358_0.out)) x9_3 p359 q359
                                                (try rw [← Nbq42.out] at hx359_0)
                                                (try rw [← Nbq46.out] at hx359_0)
                                                cases e359
                                                replace p359 := eq_true p359
                                                replace q359 := eq_true q359
                                                go_wp2
                                                go_roundg k4
                                                case measure => have := HK1.out; have := HK2.out; have := HK3.out; have := HK4.out; omega
                                                case rel => exact ⟨(x7_4), (x13_4), (wrap64 (x14_4 + 1)), (by first | rfl | (simp; done) | (simp [*]; done)), H', ⟨by have := HK1.out; have := HK2.out; have := HK3.out; have := HK4.out; omega⟩, ⟨by (with_reducible repeat (first | apply Kd.S_alloc | apply Kd.S_drewN | apply Kd.S_drew)); exact HO_5.out⟩, ⟨by (with_reducible repeat (first | apply Kd.R_alloc | apply Kd.R_drewN | apply Kd.R_drew)); exact HO_7.out⟩, ⟨by (with_reducible repeat (first | apply Kd.S_alloc | apply Kd.S_drewN | apply Kd.S_drew)); exact HO_8.out⟩, ⟨by (with_reducible repeat (first | apply Kd.R_alloc | apply Kd.R_drewN | apply Kd.R_drew)); exact HO_13.out⟩, ⟨by repeat (first | (with_reducible first | exact HB.out | apply below_alloc | apply pw_below_drewN | apply below_drew1) | exact HB.out)⟩⟩
                                            · rw [if_neg c45] at H
                                              exact absurd H (by simp)
                                          · rw [if_neg c44] at H
                                            exact absurd H (by simp)
                                        · replace c43 := Bool.eq_false_iff.mpr c43
                                          subst c43
                                          have H1 : (lambrequinref10_Parts.l4 k4 a0 x5_1 x7_4 x8_2 x9_3 x13_4 (wrap64 (x14_4 + 1))) = some r := by rw [if_neg (show ¬ (false = true) by decide)] at H; exact H
                                          clear H
                                          have H := H1
                                          clear H1
                                          have H' := Aside0.mk H
                                          clear H
                                          obtain ⟨Ao56, co56, eo56⟩ := Kd.S_slice HO_5.out
                                          subst eo56
                                          have p356 : 0 ≤ (x9_3 : Int) := of_decide_eq_true (by first | (with_reducible assumption) | assumption)
                                          have q356 : x9_3 < (x5_1.length : Int) := of_decide_eq_true (by first | (with_reducible assumption) | assumption)
                                          obtain ⟨ad356, A356_0, c356_0, e356, hx356_0, hl356_0, hi356_0⟩ := at_L6 (Kd.S_reads' HO_5.out).2.2 x9_3 p356 q356
                                          cases e356
                                          obtain ⟨ce356, hce356, hMe356, hcc356⟩ := Kd.S_get HO_5.out [] x9_3 p356 (by first | exact q356 | exact of_decide_eq_true (by first | (with_reducible assumption) | assumption) | (have e_ := (Kd.S_reads' HO_5.out).1; omega))
                                          obtain ⟨ve356_0, rfl, ge356_0⟩ := hMe356
                                          have hv356_0 := hcc356 0 _ rfl
                                          rw [Nat.add_zero, show ((Kd.slice 4 Kd.bool)).sz = 1 from rfl, Nat.mul_one] at hv356_0
                                          replace hv356_0 := Option.some.inj (hv356_0.symm.trans hx356_0)
                                          rw [hv356_0] at ge356_0
                                          have HL356_0 := Aside0.mk (show Kd.R Kd.bool 4 _ _ _ _ (rd_L6 x5_1 x9_3) from ge356_0)
                                          clear hv356_0 ge356_0
                                          clear hcc356 hce356
                                          have HR356_0 := Aside0.mk hi356_0
                                          have HC356_0 := Aside0.mk hl356_0
                                          clear hi356_0 hl356_0
                                          replace p356 := eq_true p356
                                          replace q356 := eq_true q356
                                          have p357 : 0 ≤ (x14_4 : Int) := of_decide_eq_true (by first | (with_reducible assumption) | assumption)
                                          have q357 : x14_4 < ((rd_L6 x5_1 x9_3).length : Int) := of_decide_eq_true (by first | (with_reducible assumption) | assumption)
                                          obtain ⟨ad357, e357, hx357_0⟩ := Kd.at_bool (by repeat (first | (with_reducible exact HR356_0.out) | (with_reducible refine Kd.C_alloc ?_ _) | (with_reducible refine Kd.C_drewN ?_ _) | (with_reducible refine Kd.C_drew ?_) | exact HR356_0.out)) x14_4 p357 q357
                                          (try rw [← Nbq42.out] at hx357_0)
                                          cases e357
                                          replace p357 := eq_true p357
                                          replace q357 := eq_true q357
                                          go_wp2
                                          go_roundg k4
                                          case measure => have := HK1.out; have := HK2.out; have := HK3.out; have := HK4.out; omega
                                          case rel => exact ⟨(x7_4), (x13_4), (wrap64 (x14_4 + 1)), (by first | rfl | (simp; done) | (simp [*]; done)), H', ⟨by have := HK1.out; have := HK2.out; have := HK3.out; have := HK4.out; omega⟩, ⟨by (with_reducible repeat (first | apply Kd.S_alloc | apply Kd.S_drewN | apply Kd.S_drew)); exact HO_5.out⟩, ⟨by (with_reducible repeat (first | apply Kd.R_alloc | apply Kd.R_drewN | apply Kd.R_drew)); exact HO_7.out⟩, ⟨by (with_reducible repeat (first | apply Kd.S_alloc | apply Kd.S_drewN | apply Kd.S_drew)); exact HO_8.out⟩, ⟨by (with_reducible repeat (first | apply Kd.R_alloc | apply Kd.R_drewN | apply Kd.R_drew)); exact HO_13.out⟩, ⟨by repeat (first | (with_reducible first | exact HB.out | apply below_alloc | apply pw_below_drewN | apply below_drew1) | exact HB.out)⟩⟩
                                      · rw [if_neg c41] at H
                                        exact absurd H (by simp)
                                    · rw [if_neg c40] at H
                                      exact absurd H (by simp)
                                  · rw [if_neg c39] at H
                                    exact absurd H (by simp)
                                · rw [if_neg c38] at H
                                  exact absurd H (by simp)
                              · rw [if_neg c37] at H
                                have c37b0 : decide (x14_4 < a0) = false := decide_eq_false c37
                                clear c37
                                by_cases c57 : x8_2.length < 5864062014805
                                · rw [if_pos c57] at H
                                  have LMc57 := Aside0.mk c57
                                  clear c57
                                  obtain ⟨y364, hy364⟩ : ∃ y_ : List (List Int), y_ = (x8_2 ++ [x13_4]) := ⟨_, rfl⟩
                                  replace H : (lambrequinref10_Parts.l1 k4 a0 x5_1 x7_4 y364) = some r := by first | (rw [hy364]; with_reducible exact H) | (have H2_ := (Option.bind_some _ _).symm.trans H; rw [hy364]; with_reducible exact H2_) | (have H2_ := (Option.bind_some _ _).symm.trans H; with_reducible exact H2_) | with_reducible exact H | (rw [hy364]; exact H) | exact H
                                  have Ny364 := Aside0.mk hy364
                                  clear hy364
                                  have H' := Aside0.mk H
                                  clear H
                                  obtain ⟨Ao59, co59, eo59⟩ := Kd.R_slice HO_13.out
                                  subst eo59
                                  go_wp2_with (first | ((with_reducible refine gate_builtin (b := .append) (xs := #[.tmp 108, .tmp 110]) rfl ?_); at_builtin; refine Kd.S_append (Kd.slice 3 (Kd.int .i64)) (w0 := w) w.heap.size rfl (.tmp 108) (.tmp 110) 32 35 (.slice none 0 0) 24 rfl Try.underlying32 info35 rfl (by decide) (by omega) u8 x8_2 x13_4 [.slice Ao59 x13_4.length co59] (fun _ => True) (fun k_ => some k_ = (.slice Ao59 x13_4.length co59 : Value).ownBlock) rfl rfl ?aP (fun k_ hk_ => ((Kd.R_mono (ok' := fun k_ => ((fun _ => True)) k_ ∧ some k_ ≠ (u8 : Value).ownBlock) (Kd.R_apart' (HO_13.out) (Kd.S_typed HO_8.out) (by decide)) (fun k_ hk => ⟨trivial, hk.2⟩))).1 k_ hk_.symm) ?aF ?aO ?aB ?aS ?aL ?_; (case aP => exact Kd.M_row (Kd.R_mono (Kd.R_tight rfl (Kd.R_mono (ok' := fun k_ => ((fun _ => True)) k_ ∧ some k_ ≠ (u8 : Value).ownBlock) (Kd.R_apart' (HO_13.out) (Kd.S_typed HO_8.out) (by decide)) (fun k_ hk => ⟨trivial, hk.2⟩))) (fun _ h_ => h_))); (case aB => exact (by repeat (first | (with_reducible first | exact HB.out | apply below_alloc | apply pw_below_drewN | apply below_drew1) | exact HB.out))); (case aF => exact (fun _ _ => trivial)); (case aO => exact (by (with_reducible repeat (first | apply Kd.S_alloc | apply Kd.S_drewN | apply Kd.S_drew)); exact Kd.S_mono HO_8.out (fun k_ hk => ⟨trivial, fun e_ => hk e_⟩))); (case aS => exact (below_size (by repeat (first | (with_reducible first | exact HB.out | apply below_alloc | apply pw_below_drewN | apply below_drew1) | exact HB.out)))); (case aL => have := LMc57.out; omega); intro v365 w58 ho hb hg hat; rw [← Ny364.out] at ho; have n0_ := Aside0.mk (Kd.S_over' (by (with_reducible repeat (first | apply Kd.S_alloc | apply Kd.S_drewN | apply Kd.S_drew)); exact HO_5.out) (Kd.S_typed (by (with_reducible repeat (first | apply Kd.S_alloc | apply Kd.S_drewN | apply Kd.S_drew)); exact HO_8.out)) (by decide) hg); have n1_ := Aside0.mk (Kd.R_over' (by (with_reducible repeat (first | apply Kd.R_alloc | apply Kd.R_drewN | apply Kd.R_drew)); exact HO_7.out) (Kd.S_typed (by (with_reducible repeat (first | apply Kd.S_alloc | apply Kd.S_drewN | apply Kd.S_drew)); exact HO_8.out)) (by decide) hg); have n2_ := Aside0.mk (hb); have n3_ := Aside0.mk (ho); clear HO_5; clear HO_7; clear HB; clear HO_8; clear HO_13; have HO_5 := n0_; have HO_7 := n1_; have HB := n2_; have HO366 := n3_; clear n0_ n1_ n2_ n3_; clear ho hb hg hat))
                                  go_roundg k4
                                  case measure => have := HK1.out; have := HK2.out; have := HK3.out; have := HK4.out; omega
                                  case rel => exact ⟨(x7_4), (y364), H', ⟨by have := HK1.out; have := HK2.out; have := HK3.out; have := HK4.out; omega⟩, ⟨by (with_reducible repeat (first | apply Kd.S_alloc | apply Kd.S_drewN | apply Kd.S_drew)); exact HO_5.out⟩, ⟨by (with_reducible repeat (first | apply Kd.R_alloc | apply Kd.R_drewN | apply Kd.R_drew)); exact HO_7.out⟩, ⟨by (with_reducible repeat (first | apply Kd.S_alloc | apply Kd.S_drewN | apply Kd.S_drew)); exact HO366.out⟩, ⟨by repeat (first | (with_reducible first | exact HB.out | apply below_alloc | apply pw_below_drewN | apply below_drew1) | exact HB.out)⟩⟩
                                · rw [if_neg c57] at H
                                  exact absurd H (by simp)
            · rw [if_neg c12] at H
              exact absurd H (by simp)
          · rw [if_neg c11] at H
            exact absurd H (by simp)
  · replace c4 := Bool.eq_false_iff.mpr c4
    subst c4
    have H1 : (some ([] : List (List Int))) = some r := by rw [if_neg (show ¬ (false = true) by decide)] at H; exact H
    clear H
    have H := H1
    clear H1
    obtain rfl := Option.some.inj H
    go_enter Try.func24, Try.ntmps24
    go_wp2_with (first | ((with_reducible refine gate_callee (f := 49) rfl ?_); refine goesL_ (some 17) rfl rfl Try.func49 (by kernel_rfl) rfl #[.int .i64 a0, .slice A1 l1.length c1] rfl (by (try simp only [List.map_toArray, List.map_cons, List.map_nil]); first | done | rfl | (simp only [List.length_drop, List.length_take]; rfl)) ?_; (with_reducible refine (lambrequinref10_may.calls k a0 _ _ l1 false _ ?side1 ?side2 A3.out).mono ?_); (case side1 => repeat (first | exact HR1.out | (with_reducible refine Kd.C_alloc ?_ _) | (with_reducible refine Kd.C_drewN ?_ _) | (with_reducible refine Kd.C_drew ?_))); (case side2 => exact HC1.out); rintro e w' ⟨rfl, ⟨nd, rfl⟩⟩; refine ⟨_, rfl, ?_⟩))
    go_ret
    exact ⟨_, by first | rfl | (simp [errW_none, errW_some] <;> rfl) | (simp [*, errW_none, errW_some] <;> rfl), by first | exact Kd.S_nil _ _ _ _ _ | exact Kd.N_nil _ _ _ _ _ | exact Kd.V_nil _ _ _ _ _ | exact Kd.Q_nil _ _ _ _ _ | exact Kd.R_nil _ _ _ _ _, by repeat (first | (with_reducible first | exact HB.out | apply below_alloc | apply pw_below_drewN | apply below_drew1) | exact HB.out)⟩

end Go.Proofs.Ytngmdccheaidkaa.Pr
