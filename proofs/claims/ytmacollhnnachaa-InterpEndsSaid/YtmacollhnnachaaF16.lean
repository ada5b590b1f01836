-- printed by this session's own turn of print (wip/tools/mkprint.py)
import Derived.Test.YtmacollhnnachaaF
namespace Go.Proofs.Ytmacollhnnachaa.Pr
open Go.RowKit Go.Proofs.YtmacollhnnachaaW.PrintWords Go.Proofs.YtmacollhnnachaaW.PrintLast Go.Proofs.YtmacollhnnachaaW.PrintMore
attribute [local go_sem] max2_int min2_int max_two min_two max_three min_three max_four min_four   -- for this text's walks alone
set_option linter.unusedVariables false
set_option linter.unusedSimpArgs false

/-! ### lambrequinlaw22_few: function 16 -/
def lambrequinlaw22_few.f (l0_0 : List (S38)) (l0_1 : List Int) (l0_2 : List Bool) (a0_3 : Int) : Option (Bool) := if (l0_0.length : Int) ≤ 25 then (some (decide (a0_3 ≤ 60))) else (some false)
set_option maxHeartbeats 8000000 in
set_option maxRecDepth 100000 in
theorem lambrequinlaw22_few.calls (A0_0 : Option Addr) (c0_0 : Nat) (l0_0 : List (S38)) (A0_1 : Option Addr) (c0_1 : Nat) (l0_1 : List Int) (A0_2 : Option Addr) (c0_2 : Nat) (l0_2 : List Bool) (a0_3 : Int) (r : Bool) (w : World) (hr0_0 : Kd.C k38 w A0_0 l0_0.length l0_0) (hc0_0 : l0_0.length ≤ c0_0) (hr0_1 : Kd.C (Kd.int .i64) w A0_1 l0_1.length l0_1) (hc0_1 : l0_1.length ≤ c0_1) (hr0_2 : Kd.C Kd.bool w A0_2 l0_2.length l0_2) (hc0_2 : l0_2.length ≤ c0_2) (h : lambrequinlaw22_few.f l0_0 l0_1 l0_2 a0_3 = some r) :
    Calls Try.prog 16 #[.agg #[.slice A0_0 l0_0.length c0_0, .slice A0_1 l0_1.length c0_1, .slice A0_2 l0_2.length c0_2, .int .i64 a0_3]] w fun e w' => e = .returned (.bool r) ∧ Below w.heap.size w w' := by
  have hu26 := Try.underlying26
  have HR0_0 := Aside0.mk hr0_0
  have HC0_0 := Aside0.mk hc0_0
  clear hr0_0 hc0_0
  have HR0_1 := Aside0.mk hr0_1
  have HC0_1 := Aside0.mk hc0_1
  clear hr0_1 hc0_1
  have HR0_2 := Aside0.mk hr0_2
  have HC0_2 := Aside0.mk hc0_2
  clear hr0_2 hc0_2
  have HB := Aside0.mk (Below.refl w.heap.size w)
  have H : (if (l0_0.length : Int) ≤ 25 then (some (decide (a0_3 ≤ 60))) else (some false)) = some r := h
  clear h
  by_cases c2 : (l0_0.length : Int) ≤ 25
  · rw [if_pos c2] at H
    have c2b0 : decide ((l0_0.length : Int) ≤ 25) = true := decide_eq_true c2
    have c2b1 : decide (l0_0.length ≤ 25) = true := decide_eq_true (by omega)
    clear c2
    obtain rfl := Option.some.inj H
    go_enter Try.func16, Try.ntmps16
    go_wp2_with (first | ((with_reducible refine gate_dst (N := 1) rfl ?_); refine box_event ?hg (N := 1) ?hd (cs := #[.slice A0_0 l0_0.length c0_0, .slice A0_1 l0_1.length c0_1, .slice A0_2 l0_2.length c0_2, .int .i64 a0_3]) (t := 26) ?hr ?_; (case hd => rfl); (case hg => rfl); (case hr => first | (go_simp; done) | (go_simp; rfl)); intro gb310 hg w3 hbox hb; have n0_ := Aside0.mk (below_step (by repeat (first | (with_reducible first | exact HB.out | apply below_alloc | apply pw_below_drewN | apply below_drew1) | exact HB.out)) hb); have n1_ := Aside0.mk (hbox); have n2_ := Aside0.mk ((by rw [hg]; exact (below_size (by repeat (first | (with_reducible first | exact HB.out | apply below_alloc | apply pw_below_drewN | apply below_drew1) | exact HB.out))) : w.heap.size ≤ gb310)); have n3_ := Aside0.mk ((by rw [hg]; exact (below_size (by repeat (first | (with_reducible first | exact HB.out | apply below_alloc | apply pw_below_drewN | apply below_drew1) | exact HB.out))) : w.heap.size ≤ gb310)); clear HB; have HB := n0_; have BK310 := n1_; have GW310 := n2_; have GE310 := n3_; clear n0_ n1_ n2_ n3_; clear hb hbox hg; have hcz4_0 : w3.cell? ⟨gb310, 0, none⟩ = some (.slice A0_0 l0_0.length c0_0) := (blk_cell BK310.out 0).trans rfl; have hcz4_1 : w3.cell? ⟨gb310, 1, none⟩ = some (.slice A0_1 l0_1.length c0_1) := (blk_cell BK310.out 1).trans rfl; have hcz4_2 : w3.cell? ⟨gb310, 2, none⟩ = some (.slice A0_2 l0_2.length c0_2) := (blk_cell BK310.out 2).trans rfl; have hcz4_3 : w3.cell? ⟨gb310, 3, none⟩ = some (.int .i64 a0_3) := (blk_cell BK310.out 3).trans rfl; have hfz4_0 := blk_frozen BK310.out 0; have hfz4_1 := blk_frozen BK310.out 1; have hfz4_2 := blk_frozen BK310.out 2; have hfz4_3 := blk_frozen BK310.out 3))
    go_ret
    exact ⟨by first | rfl | (simp [errW_none, errW_some] <;> rfl) | (simp [*, errW_none, errW_some] <;> rfl), by repeat (first | (with_reducible first | exact HB.out | apply below_alloc | apply pw_below_drewN | apply below_drew1 | refine below_set ?_ GE310.out) | exact HB.out)⟩
  · rw [if_neg c2] at H
    have c2b0 : decide ((l0_0.length : Int) ≤ 25) = false := decide_eq_false c2
    have c2b1 : decide (l0_0.length ≤ 25) = false := decide_eq_false (by omega)
    clear c2
    obtain rfl := Option.some.inj H
    go_enter Try.func16, Try.ntmps16
    go_wp2_with (first | ((with_reducible refine gate_dst (N := 1) rfl ?_); refine box_event ?hg (N := 1) ?hd (cs := #[.slice A0_0 l0_0.length c0_0, .slice A0_1 l0_1.length c0_1, .slice A0_2 l0_2.length c0_2, .int .i64 a0_3]) (t := 26) ?hr ?_; (case hd => rfl); (case hg => rfl); (case hr => first | (go_simp; done) | (go_simp; rfl)); intro gb310 hg w5 hbox hb; have n0_ := Aside0.mk (below_step (by repeat (first | (with_reducible first | exact HB.out | apply below_alloc | apply pw_below_drewN | apply below_drew1) | exact HB.out)) hb); have n1_ := Aside0.mk (hbox); have n2_ := Aside0.mk ((by rw [hg]; exact (below_size (by repeat (first | (with_reducible first | exact HB.out | apply below_alloc | apply pw_below_drewN | apply below_drew1) | exact HB.out))) : w.heap.size ≤ gb310)); have n3_ := Aside0.mk ((by rw [hg]; exact (below_size (by repeat (first | (with_reducible first | exact HB.out | apply below_alloc | apply pw_below_drewN | apply below_drew1) | exact HB.out))) : w.heap.size ≤ gb310)); clear HB; have HB := n0_; have BK310 := n1_; have GW310 := n2_; have GE310 := n3_; clear n0_ n1_ n2_ n3_; clear hb hbox hg; have hcz6_0 : w5.cell? ⟨gb310, 0, none⟩ = some (.slice A0_0 l0_0.length c0_0) := (blk_cell BK310.out 0).trans rfl; have hcz6_1 : w5.cell? ⟨gb310, 1, none⟩ = some (.slice A0_1 l0_1.length c0_1) := (blk_cell BK310.out 1).trans rfl; have hcz6_2 : w5.cell? ⟨gb310, 2, none⟩ = some (.slice A0_2 l0_2.length c0_2) := (blk_cell BK310.out 2).trans rfl; have hcz6_3 : w5.cell? ⟨gb310, 3, none⟩ = some (.int .i64 a0_3) := (blk_cell BK310.out 3).trans rfl; have hfz6_0 := blk_frozen BK310.out 0; have hfz6_1 := blk_frozen BK310.out 1; have hfz6_2 := blk_frozen BK310.out 2; have hfz6_3 := blk_frozen BK310.out 3))
    go_ret
    exact ⟨by first | rfl | (simp [errW_none, errW_some] <;> rfl) | (simp [*, errW_none, errW_some] <;> rfl), by repeat (first | (with_reducible first | exact HB.out | apply below_alloc | apply pw_below_drewN | apply below_drew1 | refine below_set ?_ GE310.out) | exact HB.out)⟩

end Go.Proofs.Ytmacollhnnachaa.Pr
