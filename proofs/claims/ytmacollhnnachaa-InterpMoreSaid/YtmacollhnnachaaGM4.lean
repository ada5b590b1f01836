/- What a copy, and an operation, give to the name that they define. -/
import Derived.Test.YtmacollhnnachaaGM3
namespace Go.Proofs.Ytmacollhnnachaa.Pr
open Go.RowKit Go.Proofs.YtmacollhnnachaaW.PrintWords Go.Proofs.YtmacollhnnachaaW.PrintLast Go.Proofs.YtmacollhnnachaaW.PrintMore
open Go.Lib

set_option maxHeartbeats 2000000 in
set_option maxRecDepth 100000 in
theorem made_copy {w0 w : World} {g : Nat} {l : List S38} {ins : List Int} {ora : List Bool} {A : Option Addr} {c : Nat} {vars : List S35} {n : Int} (h : MI w0 w g l ins ora (.slice A vars.length c)) (hn0 : 0 ≤ n) (hn : n < (l.length : Int)) (hk : (rd_T38 l n).f0 = 3) {y : S35} (hC : Kd.C k35 w A vars.length vars) (hy : vars.find? (isV (rd_T38 l n).f2) = some y) :
    Calls Try.prog 68 #[.pointer (some ⟨g, 0, none⟩), .int .i64 n] w fun e w' => e = .returned (aggV ⟨(rd_T38 l n).f1, y.f1, n, y.f3⟩) ∧ Below w.heap.size w w' := by
  unfold aggV
  have hg := h.lt
  obtain ⟨ad, c0, hc2, hq, x0, x1, x2, x3, x4, x5, x6, x7⟩ := h.stmt hn0 hn
  have hu68 := Try.underlying68
  have fd1 := field35_1
  have fd3 := field35_3
  have hu35 := Try.underlying35
  have hu38 := Try.underlying38
  have hne : g ≠ w.heap.size := by omega
  have n1 : (ad.add (n.toNat * 8)).block ≠ w.heap.size := by omega
  have n2 : (ad.add (n.toNat * 8)).block ≠ w.heap.size + 1 := by omega
  have n3 : (ad.add (n.toNat * 8)).block ≠ w.heap.size + 2 := by omega
  have H := Lib.hid h
  have HC := Lib.hid hC
  have HY := Lib.hid hy
  clear h hC hy
  generalize rd_T38 l n = st at *
  obtain ⟨k, X, Y, Z, O, N, a, b⟩ := st
  dsimp only at *
  subst hk
  go_enter Try.func68, Try.ntmps68
  go_wp2_with fail
  generalize hW : (((w.alloc _).alloc _).alloc _) = W
  have q3 := new3 w (.cells #[.string ⟨#[]⟩, .int .i64 0, .int .i64 0, .bool false] 35) (.cells #[.int .i64 3, .string X, .string Y, .string Z, .string O, .int .i64 N, .int .i64 a, .int .i64 b] 38) (.cells #[.string X, .int .i64 0, .int .i64 n, .bool false] 35)
  rw [hW] at q3
  have hWb : Below w.heap.size w W := by rw [← hW]; exact below_alloc (below_alloc (below_alloc (Below.refl w.heap.size w) _) _) _
  have hWs : W.heap.size = w.heap.size + 3 := by rw [← hW]; simp
  clear hW
  have facts : ∀ w1, Below W.heap.size W w1 → (w1.cell? ⟨w.heap.size + 1, 2, none⟩ = some (.string Y)) ∧ w1.cell? ⟨w.heap.size + 1 + 1, 0, none⟩ = some (.string X) ∧ w1.cell? ⟨w.heap.size + 1 + 1, 1, none⟩ = some (.int .i64 0) ∧ w1.cell? ⟨w.heap.size + 1 + 1, 2, none⟩ = some (.int .i64 n) ∧ w1.cell? ⟨w.heap.size + 1 + 1, 3, none⟩ = some (.bool false) ∧ w1.frozen? ⟨w.heap.size + 1 + 1, 1, none⟩ = false ∧ w1.frozen? ⟨w.heap.size + 1 + 1, 3, none⟩ = false := fun w1 hb => by
    obtain ⟨s0, s1, s2, s3, t0, t1, t2, t3⟩ := cells4 (blk_below q3.2.2 hb)
    exact ⟨(blk_cell (blk_below q3.2.1 hb) 2).trans rfl, s0, s1, s2, s3, t1, t3⟩
  obtain ⟨s8, s0, s1, s2, s3, t1, t3⟩ := facts W (Below.refl _ _)
  have HB0 := Lib.hid (Below.refl W.heap.size W)
  have Facts := Lib.hid facts
  have HW := Lib.hid hWb
  clear facts hWb
  have OF := Lib.hid (show ∀ V, Below W.heap.size W V → Calls Try.prog 72 #[.pointer (some ⟨g, 0, none⟩), .string Y] V fun e w' => e = .returned (.agg #[.string y.f0, .int .i64 y.f1, .int .i64 y.f2, .bool y.f3]) ∧ Below W.heap.size W w' from fun V hV =>
    (of_calls (H.out.below (below_then HW.out (by omega) hV)) (Kd.C_below HC.out (below_then HW.out (by omega) hV)) HY.out).mono fun e w' ⟨he, hb⟩ => ⟨he, hV.trans (hb.mono hV.size)⟩)
  have BR := Lib.hid (show ∀ V, Below W.heap.size W V → V.heap[w.heap.size]? = some (.cells #[.string ⟨#[]⟩, .int .i64 0, .int .i64 0, .bool false] 35 (0, 0)) ∧ V.heap[w.heap.size + 1 + 1]? = some (.cells #[.string X, .int .i64 0, .int .i64 n, .bool false] 35 (0, 0)) from fun V hV => ⟨blk_below q3.1 hV, blk_below q3.2.2 hV⟩)
  clear q3 x0 x1 x2 x3 x4 x5 x6 x7 hc2
  go_region_with (go_at_call 72; (first | (with_reducible refine (OF.out _ (below_drew (Below.refl _ W))).mono ?_) | (with_reducible refine (OF.out _ (by assumption)).mono ?_)); rintro e w1 ⟨rfl, hb1⟩; obtain ⟨s8, s0, s1, s2, s3, t1, t3⟩ := Facts.out w1 hb1)
  all_goals
    obtain ⟨br, bv⟩ := BR.out _ hb1
    obtain ⟨r0, r1, r2, r3, f0, f1, f2, f3⟩ := cells4 br
    have HB1 := Lib.hid hb1
    have BRR := Lib.hid br
    clear hb1 br bv
    have hsz := HB1.out.size
    go_wp2
    refine bodyPost_ret (results_cell_row rfl _ _ w.heap.size 35 #[.string X, .int .i64 y.f1, .int .i64 n, .bool y.f3] (0, 0) _ rfl ((blk_set (blk_set (blk_set (blk_set (blk_far (blk_far BRR.out (by simp; omega) _) (by simp; omega) _) 0 _) 1 _) 2 _) 3 _).trans rfl) Try.underlying35 rfl (by kernel_rfl)) rfl ⟨rfl, ?_⟩
    refine ((((((HW.out.trans (HB1.out.mono (by omega))).setCell ?_ _).setCell ?_ _).setCell ?_ _).setCell ?_ _).setCell ?_ _).setCell ?_ _ <;> (simp; try omega)
end Go.Proofs.Ytmacollhnnachaa.Pr
