/- Texts of the seat, without what this claim does not use. -/
import Derived.Test.YtngmdccheaidkaaTGCpt
import Derived.StillTailTactics
/- graph.Clean's three closures. -/
namespace Go.Proofs.Ytngmdccheaidkaa.Pr
open Go.RowKit Go.Proofs.YtngmdccheaidkaaW.PrintWords Go.Proofs.YtngmdccheaidkaaW.PrintLast Go.Proofs.YtngmdccheaidkaaW.PrintMore
open Go.Lib Go.Sort
def orV (a b : Int) : Int := if a = 0 then b else a
theorem or42 (g c : Nat) (a b : Int) (w : World) (h0 : w.cell? ⟨g, 0, none⟩ = some (.int .i64 a)) (h1 : w.cell? ⟨g, 1, none⟩ = some (.int .i64 b)) :
    Calls Try.prog 42 #[.slice (some ⟨g, 0, none⟩) 2 c] w fun e w' => e = .returned (.int .i64 (orV a b)) ∧ w = w' := by
  by_cases ha : a = 0
  · subst ha
    by_cases hb : b = 0
    · subst hb
      go_enter Try.func42, Try.ntmps42
      go_wp2
      refine wp_loop_rounds 3 ?_
      rw [rounds_succ]; go_wp2
      rw [rounds_succ]; go_wp2
      rw [rounds_succ]; go_wp2
      go_ret
      exact ⟨by unfold orV; rw [if_pos rfl]; rfl, rfl⟩
    · have hb1 : (b != 0) = true := by simpa using hb
      go_enter Try.func42, Try.ntmps42
      go_wp2
      refine wp_loop_rounds 3 ?_
      rw [rounds_succ]; go_wp2
      rw [rounds_succ]; go_wp2
      go_ret
      exact ⟨by unfold orV; rw [if_pos rfl]; rfl, rfl⟩
  · have ha1 : (a != 0) = true := by simpa using ha
    go_enter Try.func42, Try.ntmps42
    go_wp2
    refine wp_loop_rounds 3 ?_
    rw [rounds_succ]; go_wp2
    go_ret
    exact ⟨by unfold orV; rw [if_neg ha]; rfl, rfl⟩
theorem blk_new1' (w : World) (o0 o : Obj) : ((w.alloc o0).alloc o).heap[w.heap.size]? = some o0 ∧ ((w.alloc o0).alloc o).heap[w.heap.size + 1]? = some o := ⟨blk_alloc (blk_new w o0) o, by simpa using blk_new (w.alloc o0) o⟩
theorem grow3 (W : World) (a b c : Obj) : (((W.alloc a).alloc b).alloc c).drew = grow (W.drewN 1) #[a, b, c] := by
  have h : ((W.heap.push a).push b).push c = W.heap ++ #[a, b, c] := by apply Array.ext'; simp
  show ({ W with heap := ((W.heap.push a).push b).push c, drawn := W.drawn + 1 } : World) = { W with heap := W.heap ++ #[a, b, c], drawn := W.drawn + 1 }
  rw [h]
def cfP (x y : Pair) : Int := orV (compareInt x.1 y.1) (compareInt x.2 y.2)
set_option maxHeartbeats 400000 in
set_option maxRecDepth 100000 in
theorem cmp41 (x y : Pair) (W : World) : Calls Try.prog 41 #[.agg #[.int .i64 x.1, .int .i64 x.2], .agg #[.int .i64 y.1, .int .i64 y.2]] W fun e w' => e = .returned (.int .i64 (cfP x y)) ∧ ∃ q os', w' = grow (W.drewN q) os' := by
  have hu27 := Try.underlying27
  go_enter Try.func41, Try.ntmps41
  go_wp2_with fail
  refine wp_region_still_tail 10 (by kernel_rfl) (by kernel_rfl) ?_
  simp only [List.take_succ_cons, List.take_zero, List.drop_succ_cons, List.drop_zero]
  have hq0 := blk_new1' W (.cells #[.int .i64 x.1, .int .i64 x.2] 27 (0, 0)) (.cells #[.int .i64 y.1, .int .i64 y.2] 27 (0, 0))
  generalize hV : ((W.alloc (.cells #[.int .i64 x.1, .int .i64 x.2] 27 (0, 0))).alloc (.cells #[.int .i64 y.1, .int .i64 y.2] 27 (0, 0))) = V at hq0 ⊢
  have HV := Lib.hid hV
  clear hV
  change wpStill _ _ V.drew _ _ _
  obtain ⟨b0, b1⟩ := hq0
  have e0 : V.drew.cell? ⟨W.heap.size, 0, none⟩ = some (.int .i64 x.1) := (blk_cell (blk_drew b0) 0).trans rfl
  have e1 : V.drew.cell? ⟨W.heap.size, 1, none⟩ = some (.int .i64 x.2) := (blk_cell (blk_drew b0) 1).trans rfl
  have e2 : V.drew.cell? ⟨W.heap.size + 1, 0, none⟩ = some (.int .i64 y.1) := (blk_cell (blk_drew b1) 0).trans rfl
  have e3 : V.drew.cell? ⟨W.heap.size + 1, 1, none⟩ = some (.int .i64 y.2) := (blk_cell (blk_drew b1) 1).trans rfl
  clear b0 b1
  still_step
  still_step
  still_step
  still_step
  still_call (Try.cmp_Compare_int _ _ _)
  still_step
  still_step
  still_step
  still_step
  still_call (Try.cmp_Compare_int _ _ _)
  refine wpStill_nil ?_
  generalize hc0 : compareInt x.1 y.1 = q0
  generalize hc1 : compareInt x.2 y.2 = q1
  have HC := Lib.hid (And.intro hc0 hc1)
  clear hc0 hc1
  have hn := blk_drew (blk_new V (.cells #[.int .i64 q0, .int .i64 q1] 3 (0, 0)))
  have HO := Lib.hid (or42 V.heap.size 2 q0 q1 _ ((blk_cell hn 0).trans rfl) ((blk_cell hn 1).trans rfl))
  clear hn e0 e1 e2 e3
  go_wp2_with (go_at_call 42; refine HO.out.mono ?_; rintro e w' ⟨rfl, rfl⟩)
  go_ret
  refine ⟨by unfold cfP; rw [HC.out.1, HC.out.2]; rfl, 1, #[.cells #[.int .i64 x.1, .int .i64 x.2] 27 (0, 0), .cells #[.int .i64 y.1, .int .i64 y.2] 27 (0, 0), .cells #[.int .i64 q0, .int .i64 q1] 3 (0, 0)], ?_⟩
  rw [← HV.out]
  exact grow3 _ _ _ _
end Go.Proofs.Ytngmdccheaidkaa.Pr
