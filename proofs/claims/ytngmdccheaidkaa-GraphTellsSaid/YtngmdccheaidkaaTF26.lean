/- Texts of the seat, without what this claim does not use. -/
import Derived.Test.YtngmdccheaidkaaTF
-- printed by this session's own turn of print (wip/tools/mkprint.py)
namespace Go.Proofs.Ytngmdccheaidkaa.Pr
open Go.RowKit Go.Proofs.YtngmdccheaidkaaW.PrintWords Go.Proofs.YtngmdccheaidkaaW.PrintLast Go.Proofs.YtngmdccheaidkaaW.PrintMore
attribute [local go_sem] max2_int min2_int max_two min_two max_three min_three max_four min_four   -- for this text's walks alone
set_option linter.unusedVariables false
set_option linter.unusedSimpArgs false

/-! ### lambrequinref10_Steps: function 26 -/
mutual
def lambrequinref10_Steps.l0 : Nat → Int → List (S27) → Int → List Int → Int → Option (List Int)
  | 0, _, _, _, _, _ => none
  | k + 1, x0, x1, x2, x7, x8 => if x8 < x0 then (if x7.length < 17592186044416 then (lambrequinref10_Steps.l0 k x0 x1 x2 (x7 ++ [(-1)]) (wrap64 (x8 + 1))) else (none)) else (if x2 < 0 then (lambrequinref10_Steps.j1 k x0 x1 x2 x7 true) else (lambrequinref10_Steps.j1 k x0 x1 x2 x7 (decide (x2 ≥ x0))))
def lambrequinref10_Steps.j1 : Nat → Int → List (S27) → Int → List Int → Bool → Option (List Int)
  | 0, _, _, _, _, _ => none
  | k + 1, x0, x1, x2, x7, x27 => if x27 = true then (some x7) else (if 0 ≤ x2 then (if x2 < (x7.length : Int) then (lambrequinref10_Steps.l1 k x0 x1 (x7.set (x2 : Int).toNat 0) 0) else (none)) else (none))
def lambrequinref10_Steps.l1 : Nat → Int → List (S27) → List Int → Int → Option (List Int)
  | 0, _, _, _, _ => none
  | k + 1, x0, x1, x7, x9 => if x9 < x0 then (lambrequinref10_Steps.l2 k x0 x1 x7 x9 0) else (some x7)
def lambrequinref10_Steps.l2 : Nat → Int → List (S27) → List Int → Int → Int → Option (List Int)
  | 0, _, _, _, _, _ => none
  | k + 1, x0, x1, x7, x9, x10 => if x10 < (x1.length : Int) then (if 0 ≤ x10 then (if 0 ≤ ((rd_T27 x1 x10).f0) then (if ((rd_T27 x1 x10).f0) < (x7.length : Int) then (if (rd x7 ((rd_T27 x1 x10).f0)) = x9 then (if 0 ≤ ((rd_T27 x1 x10).f1) then (if ((rd_T27 x1 x10).f1) < (x7.length : Int) then (if (rd x7 ((rd_T27 x1 x10).f1)) < 0 then (lambrequinref10_Steps.l2 k x0 x1 (x7.set (((rd_T27 x1 x10).f1) : Int).toNat (wrap64 (x9 + 1))) x9 (wrap64 (x10 + 1))) else (lambrequinref10_Steps.l2 k x0 x1 x7 x9 (wrap64 (x10 + 1)))) else (none)) else (none)) else (lambrequinref10_Steps.l2 k x0 x1 x7 x9 (wrap64 (x10 + 1)))) else (none)) else (none)) else (none)) else (lambrequinref10_Steps.l1 k x0 x1 x7 (wrap64 (x9 + 1)))
end
def lambrequinref10_Steps.f (k : Nat) (a0 : Int) (l1 : List (S27)) (a2 : Int) : Option (List Int) := lambrequinref10_Steps.l0 k a0 l1 a2 ([] : List Int) 0
theorem lambrequinref10_Steps.mono_l : ∀ k, (∀ y0 y1 y2 y3 y4, LeO (lambrequinref10_Steps.l0 k y0 y1 y2 y3 y4) (lambrequinref10_Steps.l0 (k + 1) y0 y1 y2 y3 y4)) ∧ (∀ y0 y1 y2 y3 y4, LeO (lambrequinref10_Steps.j1 k y0 y1 y2 y3 y4) (lambrequinref10_Steps.j1 (k + 1) y0 y1 y2 y3 y4)) ∧ (∀ y0 y1 y2 y3, LeO (lambrequinref10_Steps.l1 k y0 y1 y2 y3) (lambrequinref10_Steps.l1 (k + 1) y0 y1 y2 y3)) ∧ (∀ y0 y1 y2 y3 y4, LeO (lambrequinref10_Steps.l2 k y0 y1 y2 y3 y4) (lambrequinref10_Steps.l2 (k + 1) y0 y1 y2 y3 y4))
  | 0 => ⟨fun _ _ _ _ _ r h => by simp [lambrequinref10_Steps.l0] at h, fun _ _ _ _ _ r h => by simp [lambrequinref10_Steps.j1] at h, fun _ _ _ _ r h => by simp [lambrequinref10_Steps.l1] at h, fun _ _ _ _ _ r h => by simp [lambrequinref10_Steps.l2] at h⟩
  | k + 1 => by
    obtain ⟨ih0, ih1, ih2, ih3⟩ := lambrequinref10_Steps.mono_l k
    refine ⟨?_, ?_, ?_, ?_⟩
    · intro y0 y1 y2 y3 y4
      unfold lambrequinref10_Steps.l0
      repeat' first
      | (with_reducible exact ih0 _ _ _ _ _)
      | (with_reducible exact ih1 _ _ _ _ _)
      | (with_reducible exact ih2 _ _ _ _)
      | (with_reducible exact ih3 _ _ _ _ _)
      | (with_reducible exact LeO.refl _)
      | (with_reducible exact LeO.none _)
      | (with_reducible refine LeO.ite ?_ ?_)
      | (with_reducible refine LeO.bind ?_ (fun _ => ?_))
      | exact ih0 _ _ _ _ _
      | exact ih1 _ _ _ _ _
      | exact ih2 _ _ _ _
      | exact ih3 _ _ _ _ _
      | exact LeO.none _
      | refine LeO.ite ?_ ?_
      | refine LeO.bind ?_ (fun _ => ?_)
    · intro y0 y1 y2 y3 y4
      unfold lambrequinref10_Steps.j1
      repeat' first
      | (with_reducible exact ih0 _ _ _ _ _)
      | (with_reducible exact ih1 _ _ _ _ _)
      | (with_reducible exact ih2 _ _ _ _)
      | (with_reducible exact ih3 _ _ _ _ _)
      | (with_reducible exact LeO.refl _)
      | (with_reducible exact LeO.none _)
      | (with_reducible refine LeO.ite ?_ ?_)
      | (with_reducible refine LeO.bind ?_ (fun _ => ?_))
      | exact ih0 _ _ _ _ _
      | exact ih1 _ _ _ _ _
      | exact ih2 _ _ _ _
      | exact ih3 _ _ _ _ _
      | exact LeO.none _
      | refine LeO.ite ?_ ?_
      | refine LeO.bind ?_ (fun _ => ?_)
    · intro y0 y1 y2 y3
      unfold lambrequinref10_Steps.l1
      repeat' first
      | (with_reducible exact ih0 _ _ _ _ _)
      | (with_reducible exact ih1 _ _ _ _ _)
      | (with_reducible exact ih2 _ _ _ _)
      | (with_reducible exact ih3 _ _ _ _ _)
      | (with_reducible exact LeO.refl _)
      | (with_reducible exact LeO.none _)
      | (with_reducible refine LeO.ite ?_ ?_)
      | (with_reducible refine LeO.bind ?_ (fun _ => ?_))
      | exact ih0 _ _ _ _ _
      | exact ih1 _ _ _ _ _
      | exact ih2 _ _ _ _
      | exact ih3 _ _ _ _ _
      | exact LeO.none _
      | refine LeO.ite ?_ ?_
      | refine LeO.bind ?_ (fun _ => ?_)
    · intro y0 y1 y2 y3 y4
      unfold lambrequinref10_Steps.l2
      repeat' first
      | (with_reducible exact ih0 _ _ _ _ _)
      | (with_reducible exact ih1 _ _ _ _ _)
      | (with_reducible exact ih2 _ _ _ _)
      | (with_reducible exact ih3 _ _ _ _ _)
      | (with_reducible exact LeO.refl _)
      | (with_reducible exact LeO.none _)
      | (with_reducible refine LeO.ite ?_ ?_)
      | (with_reducible refine LeO.bind ?_ (fun _ => ?_))
      | exact ih0 _ _ _ _ _
      | exact ih1 _ _ _ _ _
      | exact ih2 _ _ _ _
      | exact ih3 _ _ _ _ _
      | exact LeO.none _
      | refine LeO.ite ?_ ?_
      | refine LeO.bind ?_ (fun _ => ?_)
theorem lambrequinref10_Steps.mono : ∀ a0 a1 a2 k, LeO (lambrequinref10_Steps.f k a0 a1 a2) (lambrequinref10_Steps.f (k + 1) a0 a1 a2) := by
  intro a0 a1 a2 k
  obtain ⟨ih0, ih1, ih2, ih3⟩ := lambrequinref10_Steps.mono_l k
  unfold lambrequinref10_Steps.f
  repeat' first
      | (with_reducible exact ih0 _ _ _ _ _)
      | (with_reducible exact ih1 _ _ _ _ _)
      | (with_reducible exact ih2 _ _ _ _)
      | (with_reducible exact ih3 _ _ _ _ _)
      | (with_reducible exact LeO.refl _)
      | (with_reducible exact LeO.none _)
      | (with_reducible refine LeO.ite ?_ ?_)
      | (with_reducible refine LeO.bind ?_ (fun _ => ?_))
      | exact ih0 _ _ _ _ _
      | exact ih1 _ _ _ _ _
      | exact ih2 _ _ _ _
      | exact ih3 _ _ _ _ _
      | exact LeO.none _
      | refine LeO.ite ?_ ?_
      | refine LeO.bind ?_ (fun _ => ?_)
set_option maxHeartbeats 8000000 in
set_option maxRecDepth 100000 in
theorem lambrequinref10_Steps.calls (k : Nat) (a0 : Int) (A1 : Option Addr) (c1 : Nat) (l1 : List (S27)) (a2 : Int) (r : List Int) (w : World) (hr1 : Kd.C k27 w A1 l1.length l1) (hc1 : l1.length ≤ c1) (h : lambrequinref10_Steps.f k a0 l1 a2 = some r) :
    Calls Try.prog 26 #[.int .i64 a0, .slice A1 l1.length c1, .int .i64 a2] w fun e w' => ∃ v0_ : Value, e = .returned (v0_) ∧ Kd.R (Kd.int .i64) 3 w' w.heap.size (fun _ => True) v0_ r ∧ Below w.heap.size w w' := by
  have HR1 := Aside0.mk hr1
  have HC1 := Aside0.mk hc1
  clear hr1 hc1
  have HB := Aside0.mk (Below.refl w.heap.size w)
  have H : (lambrequinref10_Steps.l0 k a0 l1 a2 ([] : List Int) 0) = some r := h
  clear h
  have H' := Aside0.mk H
  clear H
  go_enter Try.func26, Try.ntmps26
  go_wp2
  go_loopg [7, 8] k (fun kq v7 v8 w' => ∃ (x7_1 : List Int) (x8_1 : Int), v8 = .int .i64 x8_1 ∧ Aside0 (lambrequinref10_Steps.l0 kq a0 l1 a2 x7_1 x8_1 = some r) ∧ Aside0 (kq ≤ k) ∧ Aside0 (Kd.R (Kd.int .i64) 3 w' w.heap.size (fun _ => True) v7 x7_1) ∧ Aside0 (Below w.heap.size w w'))
  case atStart => exact ⟨(([] : List Int)), (0), (by first | rfl | (simp; done) | (simp [*]; done)), H', ⟨Nat.le_refl _⟩, ⟨by first | exact Kd.R_nil _ _ _ _ _ | exact Kd.N_nil _ _ _ _ _ | exact Kd.V_nil _ _ _ _ _ | exact Kd.Q_nil _ _ _ _ _ | exact Kd.S_nil _ _ _ _ _⟩, ⟨by repeat (first | (with_reducible first | exact HB.out | apply below_alloc | apply pw_below_drewN | apply below_drew1) | exact HB.out)⟩⟩
  case round =>
    clear H'
    try clear c1
    try clear c2
    try clear p2
    obtain ⟨x7_1, x8_1, rfl, HA, HK1, HO_7, HB⟩ := hrel
    cases gk with
    | zero => exact absurd HA.out (by simp [lambrequinref10_Steps.l0])
    | succ k1 =>
      have H := HA.out
      clear HA
      simp only [lambrequinref10_Steps.l0] at H
      by_cases c4 : x8_1 < a0
      · rw [if_pos c4] at H
        have c4b0 : decide (x8_1 < a0) = true := decide_eq_true c4
        clear c4
        by_cases c5 : x7_1.length < 17592186044416
        · rw [if_pos c5] at H
          have LMc5 := Aside0.mk c5
          clear c5
          obtain ⟨y323, hy323⟩ : ∃ y_ : List Int, y_ = (x7_1 ++ [(-1)]) := ⟨_, rfl⟩
          replace H : (lambrequinref10_Steps.l0 k1 a0 l1 a2 y323 (wrap64 (x8_1 + 1))) = some r := by first | (rw [hy323]; with_reducible exact H) | (have H2_ := (Option.bind_some _ _).symm.trans H; rw [hy323]; with_reducible exact H2_) | (have H2_ := (Option.bind_some _ _).symm.trans H; with_reducible exact H2_) | with_reducible exact H | (rw [hy323]; exact H) | exact H
          have Ny323 := Aside0.mk hy323
          clear hy323
          have H' := Aside0.mk H
          clear H
          go_wp2_with (first | ((with_reducible refine gate_builtin (b := .append) (xs := #[.tmp 18, .tmp 19]) rfl ?_); at_builtin; refine Kd.R_append (Kd.int .i64) (w0 := w) w.heap.size rfl (.tmp 18) (.tmp 19) 35 3 (.int .i64 0) 8 rfl Try.underlying35 info3 rfl (by decide) (by omega) u7 x7_1 (-1) [.int .i64 (-1)] (fun _ => True) (fun _ => False) rfl rfl ?aP (fun _ hk => hk.elim) ?aF ?aO ?aB ?aS ?aL ?_; (case aP => exact rfl); (case aB => exact (by repeat (first | (with_reducible first | exact HB.out | apply below_alloc | apply pw_below_drewN | apply below_drew1) | exact HB.out))); (case aF => exact (fun _ _ => trivial)); (case aO => exact (by (with_reducible repeat (first | apply Kd.R_alloc | apply Kd.R_drewN | apply Kd.R_drew)); exact HO_7.out)); (case aS => exact (below_size (by repeat (first | (with_reducible first | exact HB.out | apply below_alloc | apply pw_below_drewN | apply below_drew1) | exact HB.out)))); (case aL => have := LMc5.out; omega); intro v324 w6 ho hb hg hat; rw [← Ny323.out] at ho; have n0_ := Aside0.mk (hb); have n1_ := Aside0.mk (ho); clear HB; clear HO_7; have HB := n0_; have HO325 := n1_; clear n0_ n1_; clear ho hb hg hat))
          go_roundg k1
          case measure => have := HK1.out; omega
          case rel => exact ⟨(y323), (wrap64 (x8_1 + 1)), (by first | rfl | (simp; done) | (simp [*]; done)), H', ⟨by have := HK1.out; omega⟩, ⟨by (with_reducible repeat (first | apply Kd.R_alloc | apply Kd.R_drewN | apply Kd.R_drew)); exact HO325.out⟩, ⟨by repeat (first | (with_reducible first | exact HB.out | apply below_alloc | apply pw_below_drewN | apply below_drew1) | exact HB.out)⟩⟩
        · rw [if_neg c5] at H
          exact absurd H (by simp)
      · rw [if_neg c4] at H
        have c4b0 : decide (x8_1 < a0) = false := decide_eq_false c4
        clear c4
        have HC7 := Aside0.mk H
        clear H
        go_upto_region 6 with (fail)
        go_cut [27] (fun v27 wc => ∃ (kq : Nat) (x27_6 : Bool), v27 = .bool x27_6 ∧ Aside0 (lambrequinref10_Steps.j1 kq a0 l1 a2 x7_1 x27_6 = some r) ∧ Aside0 (kq ≤ k1) ∧ Aside0 (Kd.R (Kd.int .i64) 3 wc w.heap.size (fun _ => True) u7 x7_1) ∧ Aside0 (Below w.heap.size w wc))
        case first =>
          have H := HC7.out
          clear HC7
          by_cases c8 : a2 < 0
          · rw [if_pos c8] at H
            have c8b0 : decide (a2 < 0) = true := decide_eq_true c8
            clear c8
            (first | rw [c8b0] | (simp only [i64_w, i32_w]; rw [c8b0]) | skip)
            have H' := Aside0.mk H
            clear H
            go_wp2
            go_meet
            case rel => exact ⟨_, (true), (by first | rfl | (simp; done) | (simp [*]; done)), H', ⟨by have := HK1.out; first | omega | exact Nat.le_refl _⟩, ⟨by (with_reducible repeat (first | apply Kd.R_alloc | apply Kd.R_drewN | apply Kd.R_drew)); exact HO_7.out⟩, ⟨by repeat (first | (with_reducible first | exact HB.out | apply below_alloc | apply pw_below_drewN | apply below_drew1) | exact HB.out)⟩⟩
          · rw [if_neg c8] at H
            have c8b0 : decide (a2 < 0) = false := decide_eq_false c8
            clear c8
            (first | rw [c8b0] | (simp only [i64_w, i32_w]; rw [c8b0]) | skip)
            have H' := Aside0.mk H
            clear H
            go_wp2
            go_meet
            case rel => exact ⟨_, (decide (a2 ≥ a0)), (by first | rfl | (simp; done) | (simp [*]; done)), H', ⟨by have := HK1.out; first | omega | exact Nat.le_refl _⟩, ⟨by (with_reducible repeat (first | apply Kd.R_alloc | apply Kd.R_drewN | apply Kd.R_drew)); exact HO_7.out⟩, ⟨by repeat (first | (with_reducible first | exact HB.out | apply below_alloc | apply pw_below_drewN | apply below_drew1) | exact HB.out)⟩⟩
        case rest =>
          clear HC7
          try clear c1
          try clear c2
          try clear p2
          try clear c4
          try clear c4b0
          try clear c5
          try clear p6
          try clear c8
          try clear c8b0
          try clear p2
          obtain ⟨kq, x27_6, rfl, HA, HJ6, HO_7, HB⟩ := hcut
          cases kq with
          | zero => exact absurd HA.out (by simp [lambrequinref10_Steps.j1])
          | succ kj6 =>
            have H := HA.out
            clear HA
            simp only [lambrequinref10_Steps.j1] at H
            by_cases c9 : x27_6 = true
            · subst c9
              have H1 : (some x7_1) = some r := by rw [if_pos rfl] at H; exact H
              clear H
              have H := H1
              clear H1
              obtain rfl := Option.some.inj H
              go_wp2
              go_ret
              exact ⟨_, by first | rfl | (simp [errW_none, errW_some] <;> rfl) | (simp [*, errW_none, errW_some] <;> rfl), by (with_reducible repeat (first | apply Kd.R_alloc | apply Kd.R_drewN | apply Kd.R_drew)); exact HO_7.out, by repeat (first | (with_reducible first | exact HB.out | apply below_alloc | apply pw_below_drewN | apply below_drew1) | exact HB.out)⟩
            · replace c9 := Bool.eq_false_iff.mpr c9
              subst c9
              have H1 : (if 0 ≤ a2 then (if a2 < (x7_1.length : Int) then (lambrequinref10_Steps.l1 kj6 a0 l1 (x7_1.set (a2 : Int).toNat 0) 0) else (none)) else (none)) = some r := by rw [if_neg (show ¬ (false = true) by decide)] at H; exact H
              clear H
              have H := H1
              clear H1
              by_cases c10 : 0 ≤ a2
              · rw [if_pos c10] at H
                have c10b0 : decide (0 ≤ a2) = true := decide_eq_true c10
                clear c10
                by_cases c11 : a2 < (x7_1.length : Int)
                · rw [if_pos c11] at H
                  have c11b0 : decide (a2 < (x7_1.length : Int)) = true := decide_eq_true c11
                  clear c11
                  obtain ⟨y326, hy326⟩ : ∃ y_ : List Int, y_ = (x7_1.set (a2 : Int).toNat 0) := ⟨_, rfl⟩
                  replace H : (lambrequinref10_Steps.l1 kj6 a0 l1 y326 0) = some r := by first | (rw [hy326]; with_reducible exact H) | (have H2_ := (Option.bind_some _ _).symm.trans H; rw [hy326]; with_reducible exact H2_) | (have H2_ := (Option.bind_some _ _).symm.trans H; with_reducible exact H2_) | with_reducible exact H | (rw [hy326]; exact H) | exact H
                  have Ny326 := Aside0.mk hy326
                  clear hy326
                  have H' := Aside0.mk H
                  clear H
                  have p12 : 0 ≤ (a2 : Int) := of_decide_eq_true (by first | (with_reducible assumption) | assumption)
                  have q12 : (a2 : Int) < ((x7_1.length : Int) : Int) := of_decide_eq_true (by first | (with_reducible assumption) | assumption)
                  obtain ⟨go12, co12, eo12, gb12, gl12, cl12, HG12⟩ := Kd.R_form HO_7.out (by omega)
                  (first | cases eo12 | (injection eo12 with ea_ en_ ec_; (first | subst ea_ | (injection ea_ with ea_; subst ea_)); subst ec_; clear en_))
                  have GB12 := Aside0.mk gb12
                  have GG12 := Aside0.mk HG12
                  clear gb12 gl12 HG12
                  obtain ⟨hx12_0, hf12_0⟩ := Kd.R_celln 0 HO_7.out (a2 : Int) p12 q12
                  replace p12 := eq_true p12
                  replace q12 := eq_true q12
                  have HP13 := Kd.R_putg HO_7.out (a2 : Int) 0
                  go_wp2_with (first | ((with_reducible refine gate_store (t := 3) (p := 31) rfl ?_); refine store_event (t := 3) (p := 31) (v := ?vo_w14) (w1 := (wc.setCell ⟨go12, (a2 : Int).toNat, none⟩ (.int .i64 0))) ?hg ?ho ?hn ?hr ?_; (case ho => rfl); (case hg => rfl); (case hn => rfl); (case hr => first | (go_simp; done) | (go_simp; rfl)); intro w14 hw; have hg : wc.grownBy w14 (some go12) := (by rw [hw]; exact HP13.2); have hp_ : Kd.R (Kd.int .i64) 3 w14 w.heap.size (fun _ => True) (.slice (some ⟨go12, 0, none⟩) x7_1.length co12) y326 := (by rw [hw, Ny326.out]; exact HP13.1); clear HP13; have n0_ := Aside0.mk (hp_); have n1_ := Aside0.mk ((by rw [hw]; exact below_set (HB.out) GB12.out : Below w.heap.size w w14)); clear HO_7; clear HB; have HO_7 := n0_; have HB := n1_; clear n0_ n1_; clear hg hw hp_))
                  go_loopg [9] kj6 (fun kq v9 w' => ∃ (x7_3 : List Int) (x9_3 : Int), v9 = .int .i64 x9_3 ∧ Aside0 (lambrequinref10_Steps.l1 kq a0 l1 x7_3 x9_3 = some r) ∧ Aside0 (kq ≤ kj6) ∧ Aside0 (Kd.R (Kd.int .i64) 3 w' w.heap.size (fun _ => True) (.slice (some ⟨go12, 0, none⟩) x7_1.length co12) x7_3) ∧ Aside0 (Below w.heap.size w w'))
                  case atStart => exact ⟨(y326), (0), (by first | rfl | (simp; done) | (simp [*]; done)), H', ⟨Nat.le_refl _⟩, ⟨by (with_reducible repeat (first | apply Kd.R_alloc | apply Kd.R_drewN | apply Kd.R_drew)); exact HO_7.out⟩, ⟨by repeat (first | (with_reducible first | exact HB.out | apply below_alloc | apply pw_below_drewN | apply below_drew1) | exact HB.out)⟩⟩
                  case round =>
                    clear H'
                    try clear c1
                    try clear p1
                    try clear q1
                    try clear hx1
                    try clear c2
                    try clear p2
                    try clear c4
                    try clear c4b0
                    try clear c5
                    try clear p6
                    try clear c8
                    try clear c8b0
                    try clear c9
                    try clear c10
                    try clear c10b0
                    try clear c11
                    try clear c11b0
                    try clear p12
                    try clear q12
                    try clear hx12
                    try clear hf12
                    try clear hx12_0
                    try clear p12
                    try clear p2
                    try clear p6
                    try clear q12
                    obtain ⟨x7_3, x9_3, rfl, HA, HK3, HO_7, HB⟩ := hrel
                    have hl7_3 := (Kd.R_reads' HO_7.out).1
                    rw [hl7_3] at HO_7
                    (try simp only [hl7_3])
                    cases gk with
                    | zero => exact absurd HA.out (by simp [lambrequinref10_Steps.l1])
                    | succ k3 =>
                      have H := HA.out
                      clear HA
                      simp only [lambrequinref10_Steps.l1] at H
                      by_cases c15 : x9_3 < a0
                      · rw [if_pos c15] at H
                        have c15b0 : decide (x9_3 < a0) = true := decide_eq_true c15
                        clear c15
                        have H' := Aside0.mk H
                        clear H
                        go_wp2
                        go_loopg [10] k3 (fun kq v10 w' => ∃ (x7_4 : List Int) (x10_4 : Int), v10 = .int .i64 x10_4 ∧ Aside0 (lambrequinref10_Steps.l2 kq a0 l1 x7_4 x9_3 x10_4 = some r) ∧ Aside0 (kq ≤ k3) ∧ Aside0 (Kd.R (Kd.int .i64) 3 w' w.heap.size (fun _ => True) (.slice (some ⟨go12, 0, none⟩) x7_3.length co12) x7_4) ∧ Aside0 (Below w.heap.size w w'))
                        case atStart => exact ⟨(x7_3), (0), (by first | rfl | (simp; done) | (simp [*]; done)), H', ⟨Nat.le_refl _⟩, ⟨by (try simp only [hl7_3]); (with_reducible repeat (first | apply Kd.R_alloc | apply Kd.R_drewN | apply Kd.R_drew)); exact HO_7.out⟩, ⟨by repeat (first | (with_reducible first | exact HB.out | apply below_alloc | apply pw_below_drewN | apply below_drew1) | exact HB.out)⟩⟩
                        case round =>
                          clear H'
                          try clear c1
                          try clear p1
                          try clear q1
                          try clear hx1
                          try clear c2
                          try clear p2
                          try clear c4
                          try clear c4b0
                          try clear c5
                          try clear p6
                          try clear c8
                          try clear c8b0
                          try clear c9
                          try clear c10
                          try clear c10b0
                          try clear c11
                          try clear c11b0
                          try clear p12
                          try clear q12
                          try clear hx12
                          try clear hf12
                          try clear c15
                          try clear c15b0
                          try clear hx12_0
                          try clear p1
                          try clear p12
                          try clear p2
                          try clear p6
                          try clear q1
                          try clear q12
                          obtain ⟨x7_4, x10_4, rfl, HA, HK4, HO_7, HB⟩ := hrel
                          have hl7_4 := (Kd.R_reads' HO_7.out).1
                          rw [hl7_4] at HO_7
                          (try simp only [hl7_4])
                          cases gk with
                          | zero => exact absurd HA.out (by simp [lambrequinref10_Steps.l2])
                          | succ k4 =>
                            have H := HA.out
                            clear HA
                            simp only [lambrequinref10_Steps.l2] at H
                            by_cases c16 : x10_4 < (l1.length : Int)
                            · rw [if_pos c16] at H
                              have c16b0 : decide (x10_4 < (l1.length : Int)) = true := decide_eq_true c16
                              clear c16
                              by_cases c17 : 0 ≤ x10_4
                              · rw [if_pos c17] at H
                                have c17b0 : decide (0 ≤ x10_4) = true := decide_eq_true c17
                                clear c17
                                by_cases c18 : 0 ≤ ((rd_T27 l1 x10_4).f0)
                                · rw [if_pos c18] at H
                                  have c18b0 : decide (0 ≤ ((rd_T27 l1 x10_4).f0)) = true := decide_eq_true c18
                                  clear c18
                                  by_cases c19 : ((rd_T27 l1 x10_4).f0) < (x7_4.length : Int)
                                  · rw [if_pos c19] at H
                                    have c19b0 : decide (((rd_T27 l1 x10_4).f0) < (x7_4.length : Int)) = true := decide_eq_true c19
                                    clear c19
                                    by_cases c20 : (rd x7_4 ((rd_T27 l1 x10_4).f0)) = x9_3
                                    · rw [if_pos c20] at H
                                      have c20b0 : ((rd x7_4 ((rd_T27 l1 x10_4).f0)) == x9_3) = true := beq_iff_eq.mpr c20
                                      have c20b1 : ((rd x7_4 ((rd_T27 l1 x10_4).f0)) != x9_3) = false := bne_eq_false_iff_eq.mpr c20
                                      clear c20
                                      by_cases c21 : 0 ≤ ((rd_T27 l1 x10_4).f1)
                                      · rw [if_pos c21] at H
                                        have c21b0 : decide (0 ≤ ((rd_T27 l1 x10_4).f1)) = true := decide_eq_true c21
                                        clear c21
                                        by_cases c22 : ((rd_T27 l1 x10_4).f1) < (x7_4.length : Int)
                                        · rw [if_pos c22] at H
                                          have c22b0 : decide (((rd_T27 l1 x10_4).f1) < (x7_4.length : Int)) = true := decide_eq_true c22
                                          clear c22
                                          by_cases c23 : (rd x7_4 ((rd_T27 l1 x10_4).f1)) < 0
                                          · rw [if_pos c23] at H
                                            have c23b0 : decide ((rd x7_4 ((rd_T27 l1 x10_4).f1)) < 0) = true := decide_eq_true c23
                                            clear c23
                                            obtain ⟨y331, hy331⟩ : ∃ y_ : List Int, y_ = (x7_4.set (((rd_T27 l1 x10_4).f1) : Int).toNat (wrap64 (x9_3 + 1))) := ⟨_, rfl⟩
                                            replace H : (lambrequinref10_Steps.l2 k4 a0 l1 y331 x9_3 (wrap64 (x10_4 + 1))) = some r := by first | (rw [hy331]; with_reducible exact H) | (have H2_ := (Option.bind_some _ _).symm.trans H; rw [hy331]; with_reducible exact H2_) | (have H2_ := (Option.bind_some _ _).symm.trans H; with_reducible exact H2_) | with_reducible exact H | (rw [hy331]; exact H) | exact H
                                            have Ny331 := Aside0.mk hy331
                                            clear hy331
                                            have H' := Aside0.mk H
                                            clear H
                                            have p327 : 0 ≤ (x10_4 : Int) := of_decide_eq_true (by first | (with_reducible assumption) | assumption)
                                            have q327 : x10_4 < (l1.length : Int) := of_decide_eq_true (by first | (with_reducible assumption) | assumption)
                                            obtain ⟨ad327, e327, hx327_0, hx327_1⟩ := at_T27 HR1.out x10_4 p327 q327
                                            cases e327
                                            replace hx327_0 := (HB.out.cell (World.block_lt_of_cell? w _ hx327_0)).trans hx327_0
                                            replace hx327_1 := (HB.out.cell (World.block_lt_of_cell? w _ hx327_1)).trans hx327_1
                                            replace p327 := eq_true p327
                                            replace q327 := eq_true q327
                                            have p328 : 0 ≤ (x10_4 : Int) := of_decide_eq_true (by first | (with_reducible assumption) | assumption)
                                            have q328 : x10_4 < (l1.length : Int) := of_decide_eq_true (by first | (with_reducible assumption) | assumption)
                                            obtain ⟨ad328, e328, hx328_0, hx328_1⟩ := at_T27 HR1.out x10_4 p328 q328
                                            obtain rfl : ad327 = ad328 := (by injection e328)
                                            replace hx328_0 := (HB.out.cell (World.block_lt_of_cell? w _ hx328_0)).trans hx328_0
                                            replace hx328_1 := (HB.out.cell (World.block_lt_of_cell? w _ hx328_1)).trans hx328_1
                                            replace p328 := eq_true p328
                                            replace q328 := eq_true q328
                                            have p329 : 0 ≤ (((rd_T27 l1 x10_4).f0) : Int) := of_decide_eq_true (by first | (with_reducible assumption) | assumption)
                                            have q329 : ((rd_T27 l1 x10_4).f0) < (x7_4.length : Int) := of_decide_eq_true (by first | (with_reducible assumption) | assumption)
                                            obtain ⟨ad329, e329, hx329_0⟩ := Kd.at_int (Kd.R_reads' HO_7.out).2.2 ((rd_T27 l1 x10_4).f0) p329 q329
                                            obtain rfl : (⟨go12, 0, none⟩ : Addr) = ad329 := (by injection e329)
                                            (first | simp only [add_plain] at hx329_0 | simp only [add_at] at hx329_0 | simp only [Addr.add, Nat.zero_add] at hx329_0 | skip)
                                            replace p329 := eq_true p329
                                            replace q329 := eq_true q329
                                            have p330 : 0 ≤ (((rd_T27 l1 x10_4).f1) : Int) := of_decide_eq_true (by first | (with_reducible assumption) | assumption)
                                            have q330 : ((rd_T27 l1 x10_4).f1) < (x7_4.length : Int) := of_decide_eq_true (by first | (with_reducible assumption) | assumption)
                                            obtain ⟨ad330, e330, hx330_0⟩ := Kd.at_int (Kd.R_reads' HO_7.out).2.2 ((rd_T27 l1 x10_4).f1) p330 q330
                                            obtain rfl : (⟨go12, 0, none⟩ : Addr) = ad330 := (by injection e330)
                                            (first | simp only [add_plain] at hx330_0 | simp only [add_at] at hx330_0 | simp only [Addr.add, Nat.zero_add] at hx330_0 | skip)
                                            replace p330 := eq_true p330
                                            replace q330 := eq_true q330
                                            have p24 : 0 ≤ (((rd_T27 l1 x10_4).f1) : Int) := of_decide_eq_true (by first | (with_reducible assumption) | assumption)
                                            have q24 : (((rd_T27 l1 x10_4).f1) : Int) < ((x7_4.length : Int) : Int) := of_decide_eq_true (by first | (with_reducible assumption) | assumption)
                                            obtain ⟨hx24_0, hf24_0⟩ := Kd.R_celln 0 HO_7.out (((rd_T27 l1 x10_4).f1) : Int) p24 q24
                                            replace p24 := eq_true p24
                                            replace q24 := eq_true q24
                                            have HP25 := Kd.R_putg HO_7.out (((rd_T27 l1 x10_4).f1) : Int) (wrap64 (x9_3 + 1))
                                            go_wp2_with (first | ((with_reducible refine gate_store (t := 3) (p := 70) rfl ?_); refine store_event (t := 3) (p := 70) (v := ?vo_w26) (w1 := (wr.setCell ⟨go12, (((rd_T27 l1 x10_4).f1) : Int).toNat, none⟩ (.int .i64 (wrap64 (x9_3 + 1))))) ?hg ?ho ?hn ?hr ?_; (case ho => rfl); (case hg => rfl); (case hn => rfl); (case hr => first | (go_simp; done) | (go_simp; rfl)); intro w26 hw; have hg : wr.grownBy w26 (some go12) := (by rw [hw]; exact HP25.2); have hp_ : Kd.R (Kd.int .i64) 3 w26 w.heap.size (fun _ => True) (.slice (some ⟨go12, 0, none⟩) x7_4.length co12) y331 := (by rw [hw, Ny331.out]; exact HP25.1); clear HP25; have n0_ := Aside0.mk (hp_); have n1_ := Aside0.mk ((by rw [hw]; exact below_set (HB.out) GB12.out : Below w.heap.size w w26)); clear HO_7; clear HB; have HO_7 := n0_; have HB := n1_; clear n0_ n1_; clear hg hw hp_))
                                            (try simp only [← hl7_4])
                                            go_roundg k4
                                            case measure => have := HK1.out; have := HJ6.out; have := HK3.out; have := HK4.out; omega
                                            case rel => exact ⟨(y331), (wrap64 (x10_4 + 1)), (by first | rfl | (simp; done) | (simp [*]; done)), H', ⟨by have := HK1.out; have := HJ6.out; have := HK3.out; have := HK4.out; omega⟩, ⟨by (try simp only [hl7_3]); (try simp only [hl7_4]); (with_reducible repeat (first | apply Kd.R_alloc | apply Kd.R_drewN | apply Kd.R_drew)); exact HO_7.out⟩, ⟨by repeat (first | (with_reducible first | exact HB.out | apply below_alloc | apply pw_below_drewN | apply below_drew1) | exact HB.out)⟩⟩
                                          · rw [if_neg c23] at H
                                            have c23b0 : decide ((rd x7_4 ((rd_T27 l1 x10_4).f1)) < 0) = false := decide_eq_false c23
                                            clear c23
                                            have H' := Aside0.mk H
                                            clear H
                                            have p327 : 0 ≤ (x10_4 : Int) := of_decide_eq_true (by first | (with_reducible assumption) | assumption)
                                            have q327 : x10_4 < (l1.length : Int) := of_decide_eq_true (by first | (with_reducible assumption) | assumption)
                                            obtain ⟨ad327, e327, hx327_0, hx327_1⟩ := at_T27 HR1.out x10_4 p327 q327
                                            cases e327
                                            replace hx327_0 := (HB.out.cell (World.block_lt_of_cell? w _ hx327_0)).trans hx327_0
                                            replace hx327_1 := (HB.out.cell (World.block_lt_of_cell? w _ hx327_1)).trans hx327_1
                                            replace p327 := eq_true p327
                                            replace q327 := eq_true q327
                                            have p328 : 0 ≤ (x10_4 : Int) := of_decide_eq_true (by first | (with_reducible assumption) | assumption)
                                            have q328 : x10_4 < (l1.length : Int) := of_decide_eq_true (by first | (with_reducible assumption) | assumption)
                                            obtain ⟨ad328, e328, hx328_0, hx328_1⟩ := at_T27 HR1.out x10_4 p328 q328
                                            obtain rfl : ad327 = ad328 := (by injection e328)
                                            replace hx328_0 := (HB.out.cell (World.block_lt_of_cell? w _ hx328_0)).trans hx328_0
                                            replace hx328_1 := (HB.out.cell (World.block_lt_of_cell? w _ hx328_1)).trans hx328_1
                                            replace p328 := eq_true p328
                                            replace q328 := eq_true q328
                                            have p329 : 0 ≤ (((rd_T27 l1 x10_4).f0) : Int) := of_decide_eq_true (by first | (with_reducible assumption) | assumption)
                                            have q329 : ((rd_T27 l1 x10_4).f0) < (x7_4.length : Int) := of_decide_eq_true (by first | (with_reducible assumption) | assumption)
                                            obtain ⟨ad329, e329, hx329_0⟩ := Kd.at_int (Kd.R_reads' HO_7.out).2.2 ((rd_T27 l1 x10_4).f0) p329 q329
                                            obtain rfl : (⟨go12, 0, none⟩ : Addr) = ad329 := (by injection e329)
                                            (first | simp only [add_plain] at hx329_0 | simp only [add_at] at hx329_0 | simp only [Addr.add, Nat.zero_add] at hx329_0 | skip)
                                            replace p329 := eq_true p329
                                            replace q329 := eq_true q329
                                            have p330 : 0 ≤ (((rd_T27 l1 x10_4).f1) : Int) := of_decide_eq_true (by first | (with_reducible assumption) | assumption)
                                            have q330 : ((rd_T27 l1 x10_4).f1) < (x7_4.length : Int) := of_decide_eq_true (by first | (with_reducible assumption) | assumption)
                                            obtain ⟨ad330, e330, hx330_0⟩ := Kd.at_int (Kd.R_reads' HO_7.out).2.2 ((rd_T27 l1 x10_4).f1) p330 q330
                                            obtain rfl : (⟨go12, 0, none⟩ : Addr) = ad330 := (by injection e330)
                                            (first | simp only [add_plain] at hx330_0 | simp only [add_at] at hx330_0 | simp only [Addr.add, Nat.zero_add] at hx330_0 | skip)
                                            replace p330 := eq_true p330
                                            replace q330 := eq_true q330
                                            go_wp2
                                            (try simp only [← hl7_4])
                                            go_roundg k4
                                            case measure => have := HK1.out; have := HJ6.out; have := HK3.out; have := HK4.out; omega
                                            case rel => exact ⟨(x7_4), (wrap64 (x10_4 + 1)), (by first | rfl | (simp; done) | (simp [*]; done)), H', ⟨by have := HK1.out; have := HJ6.out; have := HK3.out; have := HK4.out; omega⟩, ⟨by (try simp only [hl7_3]); (try simp only [hl7_4]); (with_reducible repeat (first | apply Kd.R_alloc | apply Kd.R_drewN | apply Kd.R_drew)); exact HO_7.out⟩, ⟨by repeat (first | (with_reducible first | exact HB.out | apply below_alloc | apply pw_below_drewN | apply below_drew1) | exact HB.out)⟩⟩
                                        · rw [if_neg c22] at H
                                          exact absurd H (by simp)
                                      · rw [if_neg c21] at H
                                        exact absurd H (by simp)
                                    · rw [if_neg c20] at H
                                      have c20b0 : ((rd x7_4 ((rd_T27 l1 x10_4).f0)) == x9_3) = false := beq_eq_false_iff_ne.mpr c20
                                      have c20b1 : ((rd x7_4 ((rd_T27 l1 x10_4).f0)) != x9_3) = true := bne_iff_ne.mpr c20
                                      have H' := Aside0.mk H
                                      clear H
                                      have p327 : 0 ≤ (x10_4 : Int) := of_decide_eq_true (by first | (with_reducible assumption) | assumption)
                                      have q327 : x10_4 < (l1.length : Int) := of_decide_eq_true (by first | (with_reducible assumption) | assumption)
                                      obtain ⟨ad327, e327, hx327_0, hx327_1⟩ := at_T27 HR1.out x10_4 p327 q327
                                      cases e327
                                      replace hx327_0 := (HB.out.cell (World.block_lt_of_cell? w _ hx327_0)).trans hx327_0
                                      replace hx327_1 := (HB.out.cell (World.block_lt_of_cell? w _ hx327_1)).trans hx327_1
                                      replace p327 := eq_true p327
                                      replace q327 := eq_true q327
                                      have p328 : 0 ≤ (x10_4 : Int) := of_decide_eq_true (by first | (with_reducible assumption) | assumption)
                                      have q328 : x10_4 < (l1.length : Int) := of_decide_eq_true (by first | (with_reducible assumption) | assumption)
                                      obtain ⟨ad328, e328, hx328_0, hx328_1⟩ := at_T27 HR1.out x10_4 p328 q328
                                      obtain rfl : ad327 = ad328 := (by injection e328)
                                      replace hx328_0 := (HB.out.cell (World.block_lt_of_cell? w _ hx328_0)).trans hx328_0
                                      replace hx328_1 := (HB.out.cell (World.block_lt_of_cell? w _ hx328_1)).trans hx328_1
                                      replace p328 := eq_true p328
                                      replace q328 := eq_true q328
                                      have p329 : 0 ≤ (((rd_T27 l1 x10_4).f0) : Int) := of_decide_eq_true (by first | (with_reducible assumption) | assumption)
                                      have q329 : ((rd_T27 l1 x10_4).f0) < (x7_4.length : Int) := of_decide_eq_true (by first | (with_reducible assumption) | assumption)
                                      obtain ⟨ad329, e329, hx329_0⟩ := Kd.at_int (Kd.R_reads' HO_7.out).2.2 ((rd_T27 l1 x10_4).f0) p329 q329
                                      obtain rfl : (⟨go12, 0, none⟩ : Addr) = ad329 := (by injection e329)
                                      (first | simp only [add_plain] at hx329_0 | simp only [add_at] at hx329_0 | simp only [Addr.add, Nat.zero_add] at hx329_0 | skip)
                                      replace p329 := eq_true p329
                                      replace q329 := eq_true q329
                                      go_wp2
                                      (try simp only [← hl7_4])
                                      go_roundg k4
                                      case measure => have := HK1.out; have := HJ6.out; have := HK3.out; have := HK4.out; omega
                                      case rel => exact ⟨(x7_4), (wrap64 (x10_4 + 1)), (by first | rfl | (simp; done) | (simp [*]; done)), H', ⟨by have := HK1.out; have := HJ6.out; have := HK3.out; have := HK4.out; omega⟩, ⟨by (try simp only [hl7_3]); (try simp only [hl7_4]); (with_reducible repeat (first | apply Kd.R_alloc | apply Kd.R_drewN | apply Kd.R_drew)); exact HO_7.out⟩, ⟨by repeat (first | (with_reducible first | exact HB.out | apply below_alloc | apply pw_below_drewN | apply below_drew1) | exact HB.out)⟩⟩
                                  · rw [if_neg c19] at H
                                    exact absurd H (by simp)
                                · rw [if_neg c18] at H
                                  exact absurd H (by simp)
                              · rw [if_neg c17] at H
                                exact absurd H (by simp)
                            · rw [if_neg c16] at H
                              have c16b0 : decide (x10_4 < (l1.length : Int)) = false := decide_eq_false c16
                              clear c16
                              have H' := Aside0.mk H
                              clear H
                              go_wp2
                              (try simp only [← hl7_3, ← hl7_4])
                              go_roundg k4
                              case measure => have := HK1.out; have := HJ6.out; have := HK3.out; have := HK4.out; omega
                              case rel => exact ⟨(x7_4), (wrap64 (x9_3 + 1)), (by first | rfl | (simp; done) | (simp [*]; done)), H', ⟨by have := HK1.out; have := HJ6.out; have := HK3.out; have := HK4.out; omega⟩, ⟨by (try simp only [hl7_3]); (try simp only [hl7_4]); (with_reducible repeat (first | apply Kd.R_alloc | apply Kd.R_drewN | apply Kd.R_drew)); exact HO_7.out⟩, ⟨by repeat (first | (with_reducible first | exact HB.out | apply below_alloc | apply pw_below_drewN | apply below_drew1) | exact HB.out)⟩⟩
                      · rw [if_neg c15] at H
                        have c15b0 : decide (x9_3 < a0) = false := decide_eq_false c15
                        clear c15
                        obtain rfl := Option.some.inj H
                        go_wp2
                        go_ret
                        exact ⟨_, by first | rfl | (simp [errW_none, errW_some] <;> rfl) | (simp [*, errW_none, errW_some] <;> rfl), by (with_reducible repeat (first | apply Kd.R_alloc | apply Kd.R_drewN | apply Kd.R_drew)); exact HO_7.out, by repeat (first | (with_reducible first | exact HB.out | apply below_alloc | apply pw_below_drewN | apply below_drew1) | exact HB.out)⟩
                · rw [if_neg c11] at H
                  exact absurd H (by simp)
              · rw [if_neg c10] at H
                exact absurd H (by simp)

end Go.Proofs.Ytngmdccheaidkaa.Pr
