/- What an operation gives to the name that it defines. -/
import Derived.Test.YtmacollhnnachaaGM3
import Derived.Deep.RegionHeld3
namespace Go.Proofs.Ytmacollhnnachaa.Pr
open Go.RowKit Go.Proofs.YtmacollhnnachaaW.PrintWords Go.Proofs.YtmacollhnnachaaW.PrintLast Go.Proofs.YtmacollhnnachaaW.PrintMore
open Go.Lib

theorem bsize {W w1 : World} (hb : Below W.heap.size W w1) : (∀ k, k < W.heap.size → ¬ (k = w1.heap.size)) ∧ (∀ k, k < W.heap.size → k < w1.heap.size) :=
  ⟨fun k h => by have := hb.size; omega, fun k h => by have := hb.size; omega⟩
theorem blk_new1 (w : World) (o0 o : Obj) : ((w.alloc o0).alloc o).heap[w.heap.size + 1]? = some o := by simpa using blk_new (w.alloc o0) o
theorem blk_newd (w : World) (o : Obj) : (w.drew.alloc o).heap[w.heap.size]? = some o := blk_new w.drew o
theorem blk_newd1 (w : World) (o0 o : Obj) : ((w.drew.alloc o0).alloc o).heap[w.heap.size + 1]? = some o := by simpa using blk_new (w.drew.alloc o0) o
theorem blk_new4 (w : World) (o : Obj) (a b c d : Addr) (x y z u : Value) : (((((w.setCell a x).setCell b y).setCell c z).setCell d u).alloc o).heap[w.heap.size]? = some o := by simpa using blk_new ((((w.setCell a x).setCell b y).setCell c z).setCell d u) o
theorem blk_row4 {w : World} {g : Nat} (h : w.heap[g]? = some (.cells #[.string ⟨#[]⟩, .int .i64 0, .int .i64 0, .bool false] 35 (0, 0))) (u0 u1 u2 u3 : Value) : ((((w.setCell ⟨g, 0, none⟩ u0).setCell ⟨g, 1, none⟩ u1).setCell ⟨g, 2, none⟩ u2).setCell ⟨g, 3, none⟩ u3).heap[g]? = some (.cells #[u0, u1, u2, u3] 35 (0, 0)) := (blk_set (blk_set (blk_set (blk_set h 0 _) 1 _) 2 _) 3 _).trans rfl
theorem setge {n : Nat} {p : Addr} (h : n ≤ p.block) : n ≤ p.block := h
theorem bcell {W w1 : World} (hb : Below W.heap.size W w1) : (∀ b o, b < W.heap.size → w1.cell? ⟨b, o, none⟩ = W.cell? ⟨b, o, none⟩) ∧ (∀ b o, b < W.heap.size → w1.frozen? ⟨b, o, none⟩ = W.frozen? ⟨b, o, none⟩) :=
  ⟨fun b o h => hb.cell (p := ⟨b, o, none⟩) h, fun b o h => hb.frozen (p := ⟨b, o, none⟩) h⟩

set_option maxHeartbeats 20000000 in
set_option maxRecDepth 100000 in
theorem made_op {w0 w : World} {g : Nat} {l : List S38} {ins : List Int} {ora : List Bool} {A : Option Addr} {c : Nat} {vars : List S35} {n : Int} (h : MI w0 w g l ins ora (.slice A vars.length c)) (hn0 : 0 ≤ n) (hn : n < (l.length : Int)) (hk : (rd_T38 l n).f0 = 2) {y z : S35} {r : Int} (hC : Kd.C k35 w A vars.length vars) (hy : vars.find? (isV (rd_T38 l n).f2) = some y) (hz : vars.find? (isV (rd_T38 l n).f3) = some z) (ho : interp_operated.f (rd_T38 l n).f4 y.f1 z.f1 = some r) :
    Calls Try.prog 68 #[.pointer (some ⟨g, 0, none⟩), .int .i64 n] w fun e w' => e = .returned (aggV ⟨(rd_T38 l n).f1, r, n, y.f3 || z.f3⟩) ∧ Below w.heap.size w w' := by
  unfold aggV
  have hg := h.lt
  obtain ⟨ad, c0, hc2, hq, x0, x1, x2, x3, x4, x5, x6, x7⟩ := h.stmt hn0 hn
  have hu68 := Try.underlying68
  have fd1 := field35_1
  have fd3 := field35_3
  have hu35 := Try.underlying35
  have hu38 := Try.underlying38
  have hne : g ≠ w.heap.size := by omega
  have n1 : (ad.add (n.toNat * 8)).block ≠ w.heap.size := by omega
  have n2 : (ad.add (n.toNat * 8)).block ≠ w.heap.size + 1 := by omega
  have n3 : (ad.add (n.toNat * 8)).block ≠ w.heap.size + 2 := by omega
  have H := Lib.hid h
  have HC := Lib.hid hC
  have HY := Lib.hid hy
  have HZ := Lib.hid hz
  have HO := Lib.hid ho
  clear h hC hy hz ho
  generalize rd_T38 l n = st at *
  obtain ⟨k, X, Y, Z, O, N, a, b⟩ := st
  dsimp only at *
  subst hk
  go_enter Try.func68, Try.ntmps68
  go_upto_region 13 with (fail)
  have OFy := Lib.hid (show ∀ V, Below w.heap.size w V → Calls Try.prog 72 #[.pointer (some ⟨g, 0, none⟩), .string Y] V fun e w' => e = .returned (.agg #[.string y.f0, .int .i64 y.f1, .int .i64 y.f2, .bool y.f3]) ∧ Below V.heap.size V w' ∧ Below w.heap.size w w' from fun V hV =>
    (of_calls (H.out.below hV) (Kd.C_below HC.out hV) HY.out).mono fun e w' ⟨he, hb⟩ => ⟨he, hb, below_then hV hV.size hb⟩)
  have OFz := Lib.hid (show ∀ V, Below w.heap.size w V → Calls Try.prog 72 #[.pointer (some ⟨g, 0, none⟩), .string Z] V fun e w' => e = .returned (.agg #[.string z.f0, .int .i64 z.f1, .int .i64 z.f2, .bool z.f3]) ∧ Below V.heap.size V w' ∧ Below w.heap.size w w' from fun V hV =>
    (of_calls (H.out.below hV) (Kd.C_below HC.out hV) HZ.out).mono fun e w' ⟨he, hb⟩ => ⟨he, hb, below_then hV hV.size hb⟩)
  clear x0 x1 x2 x3 x4 x5 x6 x7 hc2 n1 n2 n3
  go_cut [7, 8] (fun v7 v8 wx => ∃ g7 g8 : Nat, v7 = .pointer (some ⟨g7, 0, none⟩) ∧ v8 = .pointer (some ⟨g8, 0, none⟩) ∧ w.heap.size + 3 ≤ g7 ∧ w.heap.size + 3 ≤ g8 ∧ g7 ≠ g8 ∧ Hid (Below (w.heap.size + 3) (((w.alloc (.cells #[.string ⟨#[]⟩, .int .i64 0, .int .i64 0, .bool false] 35)).alloc (.cells #[.int .i64 2, .string X, .string Y, .string Z, .string O, .int .i64 N, .int .i64 a, .int .i64 b] 38)).alloc (.cells #[.string X, .int .i64 0, .int .i64 n, .bool false] 35)) wx) ∧ Hid (wx.heap[g7]? = some (.cells #[.string y.f0, .int .i64 y.f1, .int .i64 y.f2, .bool y.f3] 35 (0, 0))) ∧ Hid (wx.heap[g8]? = some (.cells #[.string z.f0, .int .i64 z.f1, .int .i64 z.f2, .bool z.f3] 35 (0, 0))))
  case first =>
    have q3 := new3 w (.cells #[.string ⟨#[]⟩, .int .i64 0, .int .i64 0, .bool false] 35) (.cells #[.int .i64 2, .string X, .string Y, .string Z, .string O, .int .i64 N, .int .i64 a, .int .i64 b] 38) (.cells #[.string X, .int .i64 0, .int .i64 n, .bool false] 35)
    have hWb : Below w.heap.size w (((w.alloc (.cells #[.string ⟨#[]⟩, .int .i64 0, .int .i64 0, .bool false] 35)).alloc (.cells #[.int .i64 2, .string X, .string Y, .string Z, .string O, .int .i64 N, .int .i64 a, .int .i64 b] 38)).alloc (.cells #[.string X, .int .i64 0, .int .i64 n, .bool false] 35)) := below_alloc (below_alloc (below_alloc (Below.refl w.heap.size w) _) _) _
    have hWs : (((w.alloc (.cells #[.string ⟨#[]⟩, .int .i64 0, .int .i64 0, .bool false] 35)).alloc (.cells #[.int .i64 2, .string X, .string Y, .string Z, .string O, .int .i64 N, .int .i64 a, .int .i64 b] 38)).alloc (.cells #[.string X, .int .i64 0, .int .i64 n, .bool false] 35)).heap.size = w.heap.size + 3 := by simp
    generalize (((w.alloc (.cells #[.string ⟨#[]⟩, .int .i64 0, .int .i64 0, .bool false] 35)).alloc (.cells #[.int .i64 2, .string X, .string Y, .string Z, .string O, .int .i64 N, .int .i64 a, .int .i64 b] 38)).alloc (.cells #[.string X, .int .i64 0, .int .i64 n, .bool false] 35)) = W at *
    have k2 : W.cell? ⟨w.heap.size + 1, 2, none⟩ = some (.string Y) := (blk_cell q3.2.1 2).trans rfl
    have k3 : W.cell? ⟨w.heap.size + 1, 3, none⟩ = some (.string Z) := (blk_cell q3.2.1 3).trans rfl
    have hp0 : ∀ m, w.heap.size + 1 < W.heap.size + m := fun m => by omega
    have hp1 : w.heap.size + 1 < W.heap.size := by omega
    have OGy := Lib.hid (show ∀ V, Below W.heap.size W V → Calls Try.prog 72 #[.pointer (some ⟨g, 0, none⟩), .string Y] V fun e w' => e = .returned (.agg #[.string y.f0, .int .i64 y.f1, .int .i64 y.f2, .bool y.f3]) ∧ Below V.heap.size V w' ∧ Below W.heap.size W w' from fun V hV =>
      (OFy.out V (below_then hWb (by omega) hV)).mono fun e w' ⟨he, hb, _⟩ => ⟨he, hb, below_then hV hV.size hb⟩)
    have OGz := Lib.hid (show ∀ V, Below W.heap.size W V → Calls Try.prog 72 #[.pointer (some ⟨g, 0, none⟩), .string Z] V fun e w' => e = .returned (.agg #[.string z.f0, .int .i64 z.f1, .int .i64 z.f2, .bool z.f3]) ∧ Below V.heap.size V w' ∧ Below W.heap.size W w' from fun V hV =>
      (OFz.out V (below_then hWb (by omega) hV)).mono fun e w' ⟨he, hb, _⟩ => ⟨he, hb, below_then hV hV.size hb⟩)
    have HWS := Lib.hid hWs
    clear hWb hWs q3 OFy OFz hne hq hu68 fd1 fd3 hn0 hn HO HC HY HZ H
    generalize w.heap.size + 1 = p5 at *
    have KEEP := Lib.hid (show ∀ V, Below W.heap.size W V → V.cell? ⟨p5, 2, none⟩ = some (.string Y) ∧ V.cell? ⟨p5, 3, none⟩ = some (.string Z) from fun V hV => ⟨(hV.cell (p := ⟨p5, 2, none⟩) hp1).trans k2, (hV.cell (p := ⟨p5, 3, none⟩) hp1).trans k3⟩)
    have HB0 := Below.refl W.heap.size W
    go_region_held3 (fun w' => w'.cell? ⟨p5, 2, none⟩ = some (.string Y) ∧ w'.cell? ⟨p5, 3, none⟩ = some (.string Z)) (focus (with_reducible refine KEEP.out _ ?_; repeat (first | with_reducible assumption | with_reducible exact Below.refl _ _ | with_reducible refine below_alloc ?_ _ | with_reducible refine below_drew ?_ | with_reducible refine Below.setCell ?_ (setge ?_) _ | (dsimp only; omega) | omega | (simp; omega)))) (focus (go_at_call 72; (first | (with_reducible refine (OGy.out _ ?_).mono ?_; (focus (repeat (first | with_reducible assumption | with_reducible exact Below.refl _ _ | with_reducible refine below_alloc ?_ _ | with_reducible refine below_drew ?_))); (rintro e w1 ⟨rfl, hb1, hw1⟩); (have hws1 := hw1.size); (have hbs1 := hb1.size); (obtain ⟨hc1, hf1⟩ := bcell hb1); (try simp at hbs1 hc1 hf1); (try have hz10 : W.heap.size < w1.heap.size := by omega); (try have hz11 : W.heap.size + 1 < w1.heap.size := by omega); (try have hz12 : W.heap.size ≠ w1.heap.size := by omega); (try have hz13 : W.heap.size + 1 ≠ w1.heap.size := by omega)) | (with_reducible refine (OGz.out _ ?_).mono ?_; (focus (repeat (first | with_reducible assumption | with_reducible exact Below.refl _ _ | with_reducible refine below_alloc ?_ _ | with_reducible refine below_drew ?_))); (rintro e w2 ⟨rfl, hb2, hw2⟩); (have hws2 := hw2.size); (have hbs2 := hb2.size); (obtain ⟨hc2, hf2⟩ := bcell hb2); (try simp at hbs2 hc2 hf2); (try have hz20 : W.heap.size < w2.heap.size := by omega); (try have hz21 : W.heap.size + 1 < w2.heap.size := by omega); (try have hz22 : w1.heap.size < w2.heap.size := by omega); (try have hz23 : w1.heap.size + 1 < w2.heap.size := by omega); (try have hz24 : W.heap.size ≠ w2.heap.size := by omega); (try have hz25 : W.heap.size + 1 ≠ w2.heap.size := by omega); (try have hz26 : w1.heap.size ≠ w2.heap.size := by omega); (try have hz27 : w1.heap.size + 1 ≠ w2.heap.size := by omega)))))
    all_goals
      have hW3 := HWS.out
      clear hc1 hf1 hc2 hf2 KEEP OGy OGz hu35 hu38 k2 k3
      go_wp2_with fail
      go_meet
      refine ⟨_, _, rfl, rfl, ?_, ?_, ?_, Lib.hid ?_, Lib.hid ?_, Lib.hid ?_⟩
      · omega
      · omega
      · omega
      · rw [← hW3]; repeat (first | with_reducible assumption | with_reducible exact Below.refl _ _ | with_reducible refine below_alloc ?_ _ | with_reducible refine below_drew ?_ | with_reducible refine Below.setCell ?_ (setge ?_) _ | (dsimp only; omega) | omega)
      · clear hw1 hw2 HB0; repeat (first | with_reducible refine blk_row4 ?_ _ _ _ _ | with_reducible refine blk_far ?_ (by dsimp only; omega) _ | with_reducible exact blk_new _ _ | with_reducible exact blk_new1 _ _ _ | with_reducible exact blk_newd _ _ | with_reducible exact blk_newd1 _ _ _ | with_reducible exact blk_new4 _ _ _ _ _ _ _ _ _ _ | with_reducible refine blk_drew ?_ | with_reducible refine blk_alloc ?_ _ | with_reducible refine blk_below ?_ (by with_reducible assumption))
      · clear hw1 hw2 HB0; repeat (first | with_reducible refine blk_row4 ?_ _ _ _ _ | with_reducible refine blk_far ?_ (by dsimp only; omega) _ | with_reducible exact blk_new _ _ | with_reducible exact blk_new1 _ _ _ | with_reducible exact blk_newd _ _ | with_reducible exact blk_newd1 _ _ _ | with_reducible exact blk_new4 _ _ _ _ _ _ _ _ _ _ | with_reducible refine blk_drew ?_ | with_reducible refine blk_alloc ?_ _ | with_reducible refine blk_below ?_ (by with_reducible assumption))
  case rest =>
    clear OFy OFz
    obtain ⟨g7, g8, e7, e8, l7, l8, l9, HB, H7, H8⟩ := hcut
    subst e7 e8
    have q3 := new3 w (.cells #[.string ⟨#[]⟩, .int .i64 0, .int .i64 0, .bool false] 35) (.cells #[.int .i64 2, .string X, .string Y, .string Z, .string O, .int .i64 N, .int .i64 a, .int .i64 b] 38) (.cells #[.string X, .int .i64 0, .int .i64 n, .bool false] 35)
    have hWb : Below w.heap.size w (((w.alloc (.cells #[.string ⟨#[]⟩, .int .i64 0, .int .i64 0, .bool false] 35)).alloc (.cells #[.int .i64 2, .string X, .string Y, .string Z, .string O, .int .i64 N, .int .i64 a, .int .i64 b] 38)).alloc (.cells #[.string X, .int .i64 0, .int .i64 n, .bool false] 35)) := below_alloc (below_alloc (below_alloc (Below.refl w.heap.size w) _) _) _
    have hWs : (((w.alloc (.cells #[.string ⟨#[]⟩, .int .i64 0, .int .i64 0, .bool false] 35)).alloc (.cells #[.int .i64 2, .string X, .string Y, .string Z, .string O, .int .i64 N, .int .i64 a, .int .i64 b] 38)).alloc (.cells #[.string X, .int .i64 0, .int .i64 n, .bool false] 35)).heap.size = w.heap.size + 3 := by simp
    generalize (((w.alloc (.cells #[.string ⟨#[]⟩, .int .i64 0, .int .i64 0, .bool false] 35)).alloc (.cells #[.int .i64 2, .string X, .string Y, .string Z, .string O, .int .i64 N, .int .i64 a, .int .i64 b] 38)).alloc (.cells #[.string X, .int .i64 0, .int .i64 n, .bool false] 35)) = W at *
    have HBW : Below W.heap.size W wc := by rw [hWs]; exact HB.out
    have hwc : Below w.heap.size w wc := below_then hWb (by omega) HBW
    have b0 := blk_below q3.1 HBW
    have b1 := blk_below q3.2.1 HBW
    have b2 := blk_below q3.2.2 HBW
    clear q3 hWb HBW HB hWs W
    have KEEP := Lib.hid (show ∀ V, Below wc.heap.size wc V → (V.heap[w.heap.size]? = some (.cells #[.string ⟨#[]⟩, .int .i64 0, .int .i64 0, .bool false] 35) ∧ V.heap[w.heap.size + 1 + 1]? = some (.cells #[.string X, .int .i64 0, .int .i64 n, .bool false] 35)) ∧ V.cell? ⟨w.heap.size + 1, 4, none⟩ = some (.string O) ∧ V.cell? ⟨g7, 1, none⟩ = some (.int .i64 y.f1) ∧ V.cell? ⟨g7, 3, none⟩ = some (.bool y.f3) ∧ V.cell? ⟨g8, 1, none⟩ = some (.int .i64 z.f1) ∧ V.cell? ⟨g8, 3, none⟩ = some (.bool z.f3) from fun V hV =>
      ⟨⟨blk_below b0 hV, blk_below b2 hV⟩, (blk_cell (blk_below b1 hV) 4).trans rfl, (blk_cell (blk_below H7.out hV) 1).trans rfl, (blk_cell (blk_below H7.out hV) 3).trans rfl, (blk_cell (blk_below H8.out hV) 1).trans rfl, (blk_cell (blk_below H8.out hV) 3).trans rfl⟩)
    have OP := Lib.hid (show ∀ V, Calls Try.prog 97 #[.string O, .int .i64 y.f1, .int .i64 z.f1] V fun e w' => e = .returned (.int .i64 r) ∧ Below V.heap.size V w' from fun V => (interp_operated.calls O y.f1 z.f1 r V HO.out).mono fun e w' ⟨he, hd⟩ => ⟨he, hd.below⟩)
    have l0 : w.heap.size ≠ w.heap.size + 1 + 1 := by omega
    have l1 : w.heap.size + 1 ≠ w.heap.size + 1 + 1 := by omega
    have l2 : g7 ≠ w.heap.size + 1 + 1 := by omega
    have l3 : g8 ≠ w.heap.size + 1 + 1 := by omega
    have HWC := Lib.hid hwc
    have B0 := Lib.hid b0
    have B2 := Lib.hid b2
    have Hwc := Lib.hid (show Below wc.heap.size wc wc from Below.refl _ _)
    obtain ⟨_, c1, c2, c3, c4, c5⟩ := KEEP.out wc Hwc.out
    clear hwc b0 b1 b2 H7 H8 HO HY HZ HC H hq l7 l8 l9 hn0 hn hne
    generalize e5 : w.heap.size + 1 = p5 at *
    generalize e6 : p5 + 1 = p6 at *
    have KSET := Lib.hid (show ∀ (V : World) (o : Nat) (u : Value), (V.cell? ⟨p5, 4, none⟩ = some (.string O) ∧ V.cell? ⟨g7, 1, none⟩ = some (.int .i64 y.f1) ∧ V.cell? ⟨g7, 3, none⟩ = some (.bool y.f3) ∧ V.cell? ⟨g8, 1, none⟩ = some (.int .i64 z.f1) ∧ V.cell? ⟨g8, 3, none⟩ = some (.bool z.f3)) → ((V.setCell ⟨p6, o, none⟩ u).cell? ⟨p5, 4, none⟩ = some (.string O) ∧ (V.setCell ⟨p6, o, none⟩ u).cell? ⟨g7, 1, none⟩ = some (.int .i64 y.f1) ∧ (V.setCell ⟨p6, o, none⟩ u).cell? ⟨g7, 3, none⟩ = some (.bool y.f3) ∧ (V.setCell ⟨p6, o, none⟩ u).cell? ⟨g8, 1, none⟩ = some (.int .i64 z.f1) ∧ (V.setCell ⟨p6, o, none⟩ u).cell? ⟨g8, 3, none⟩ = some (.bool z.f3)) from fun V o u ⟨h0, h1, h2, h3, h4⟩ =>
      ⟨(World.cell?_setCell_far _ _ _ _ (Ne.symm l1)).trans h0, (World.cell?_setCell_far _ _ _ _ (Ne.symm l2)).trans h1, (World.cell?_setCell_far _ _ _ _ (Ne.symm l2)).trans h2, (World.cell?_setCell_far _ _ _ _ (Ne.symm l3)).trans h3, (World.cell?_setCell_far _ _ _ _ (Ne.symm l3)).trans h4⟩)
    go_wp2_with fail
    have KEEP' := Lib.hid (show ∀ V, Below wc.heap.size wc V → V.cell? ⟨p5, 4, none⟩ = some (.string O) ∧ V.cell? ⟨g7, 1, none⟩ = some (.int .i64 y.f1) ∧ V.cell? ⟨g7, 3, none⟩ = some (.bool y.f3) ∧ V.cell? ⟨g8, 1, none⟩ = some (.int .i64 z.f1) ∧ V.cell? ⟨g8, 3, none⟩ = some (.bool z.f3) from fun V hV => (KEEP.out V hV).2)
    have hwv := Hwc.out
    generalize hy3 : y.f3 = t3 at *
    generalize hz3 : z.f3 = t4 at *
    cases t3
    case false =>
      go_region_held3 (fun w' => w'.cell? ⟨p5, 4, none⟩ = some (.string O) ∧ w'.cell? ⟨g7, 1, none⟩ = some (.int .i64 y.f1) ∧ w'.cell? ⟨g7, 3, none⟩ = some (.bool false) ∧ w'.cell? ⟨g8, 1, none⟩ = some (.int .i64 z.f1) ∧ w'.cell? ⟨g8, 3, none⟩ = some (.bool t4)) (focus (first | with_reducible exact KEEP'.out _ (by with_reducible assumption) | with_reducible exact KEEP'.out _ (below_drew (by with_reducible assumption)) | (repeat (first | with_reducible assumption | with_reducible refine KSET.out _ _ _ ?_)))) (focus (go_at_call 97; with_reducible refine (OP.out _).mono ?_; (rintro e w1 ⟨rfl, hb1⟩); (have hw1 : Below wc.heap.size wc w1 := below_then (below_drew (Below.refl wc.heap.size wc)) (Nat.le_refl _) hb1); (obtain ⟨⟨br, bv⟩, _⟩ := KEEP.out _ hw1); (obtain ⟨s0, s1, s2, s3, t0, t1, t2, t3⟩ := cells4 bv); (obtain ⟨r0, r1, r2, r3, f0, f1, f2, f3⟩ := cells4 br)))
      all_goals
        clear KSET KEEP KEEP' OP
        go_wp2
        refine bodyPost_ret (results_cell_row rfl _ _ w.heap.size 35 #[.string X, .int .i64 r, .int .i64 n, .bool t4] (0, 0) _ rfl ((blk_set (blk_set (blk_set (blk_set (blk_far (blk_far br l0 _) l0 _) 0 _) 1 _) 2 _) 3 _).trans rfl) Try.underlying35 rfl (by kernel_rfl)) rfl ⟨by simp_all, ?_⟩
        refine (((((below_then HWC.out HWC.out.size hw1).setCell ?_ _).setCell ?_ _).setCell ?_ _).setCell ?_ _ |>.setCell ?_ _).setCell ?_ _ <;> (dsimp only; omega)
    case true =>
      refine wp_region_noPanic ?_
      refine wp_region_held_drew (S := fun w' => w'.cell? ⟨p5, 4, none⟩ = some (.string O) ∧ w'.cell? ⟨g7, 1, none⟩ = some (.int .i64 y.f1) ∧ w'.cell? ⟨g7, 3, none⟩ = some (.bool true) ∧ w'.cell? ⟨g8, 1, none⟩ = some (.int .i64 z.f1) ∧ w'.cell? ⟨g8, 3, none⟩ = some (.bool t4)) (by kernel_rfl) ?_ (fun hHeld => ?_)
      · exact KEEP'.out _ (below_drew hwv)
      refine wpAnyH_take (i := 0) (oi := { dst := some 67, op := Go.Op.fieldAddr 38 (Go.Operand.tmp 5) 4, type := 0, pos := "interp.go:106", after := #[], guard := none }) (v := ?_) rfl (by kernel_rfl) (by kernel_rfl) (by kernel_rfl) (fun _ _ _ h => h) (Or.inl ⟨by rfl, ?_⟩) (by assumption) ?_
      rotate_left 1; · (intro wz hSw; (try dsimp only at hSw); go_simp; all_goals (try with_reducible rfl))
      try simp only [Act.put, List.setIfInBounds_toArray, List.set_cons_zero, List.set_cons_succ]
      refine wpAnyH_take (i := 1) (oi := { dst := some 68, op := Go.Op.load 9 (Go.Operand.tmp 67), type := 9, pos := "interp.go:106", after := #[{ on := 0, ground := Go.Ground.data }], guard := none }) (v := ?_) rfl (by kernel_rfl) (by kernel_rfl) (by kernel_rfl) (fun _ _ _ h => h) (Or.inl ⟨by rfl, ?_⟩) (by assumption) ?_
      rotate_left 1; · (intro wz hSw; (try dsimp only at hSw); go_simp; all_goals (try with_reducible rfl))
      try simp only [Act.put, List.setIfInBounds_toArray, List.set_cons_zero, List.set_cons_succ]
      refine wpAnyH_take (i := 2) (oi := { dst := some 69, op := Go.Op.fieldAddr 35 (Go.Operand.tmp 7) 1, type := 0, pos := "interp.go:106", after := #[], guard := none }) (v := ?_) rfl (by kernel_rfl) (by kernel_rfl) (by kernel_rfl) (fun _ _ _ h => h) (Or.inl ⟨by rfl, ?_⟩) (by assumption) ?_
      rotate_left 1; · (intro wz hSw; (try dsimp only at hSw); go_simp; all_goals (try with_reducible rfl))
      try simp only [Act.put, List.setIfInBounds_toArray, List.set_cons_zero, List.set_cons_succ]
      refine wpAnyH_take (i := 3) (oi := { dst := some 70, op := Go.Op.load 2 (Go.Operand.tmp 69), type := 2, pos := "interp.go:106", after := #[{ on := 2, ground := Go.Ground.data }], guard := none }) (v := ?_) rfl (by kernel_rfl) (by kernel_rfl) (by kernel_rfl) (fun _ _ _ h => h) (Or.inl ⟨by rfl, ?_⟩) (by assumption) ?_
      rotate_left 1; · (intro wz hSw; (try dsimp only at hSw); go_simp; all_goals (try with_reducible rfl))
      try simp only [Act.put, List.setIfInBounds_toArray, List.set_cons_zero, List.set_cons_succ]
      refine wpAnyH_take (i := 4) (oi := { dst := some 71, op := Go.Op.fieldAddr 35 (Go.Operand.tmp 8) 1, type := 0, pos := "interp.go:106", after := #[], guard := none }) (v := ?_) rfl (by kernel_rfl) (by kernel_rfl) (by kernel_rfl) (fun _ _ _ h => h) (Or.inl ⟨by rfl, ?_⟩) (by assumption) ?_
      rotate_left 1; · (intro wz hSw; (try dsimp only at hSw); go_simp; all_goals (try with_reducible rfl))
      try simp only [Act.put, List.setIfInBounds_toArray, List.set_cons_zero, List.set_cons_succ]
      refine wpAnyH_take (i := 5) (oi := { dst := some 72, op := Go.Op.load 2 (Go.Operand.tmp 71), type := 2, pos := "interp.go:106", after := #[{ on := 4, ground := Go.Ground.data }], guard := none }) (v := ?_) rfl (by kernel_rfl) (by kernel_rfl) (by kernel_rfl) (fun _ _ _ h => h) (Or.inl ⟨by rfl, ?_⟩) (by assumption) ?_
      rotate_left 1; · (intro wz hSw; (try dsimp only at hSw); go_simp; all_goals (try with_reducible rfl))
      try simp only [Act.put, List.setIfInBounds_toArray, List.set_cons_zero, List.set_cons_succ]
      refine wpAnyH_take (i := 7) (oi := { dst := some 74, op := Go.Op.fieldAddr 35 (Go.Operand.tmp 7) 3, type := 0, pos := "interp.go:106", after := #[], guard := none }) (v := ?_) rfl (by kernel_rfl) (by kernel_rfl) (by kernel_rfl) (fun _ _ _ h => h) (Or.inl ⟨by rfl, ?_⟩) (by assumption) ?_
      rotate_left 1; · (intro wz hSw; (try dsimp only at hSw); go_simp; all_goals (try with_reducible rfl))
      try simp only [Act.put, List.setIfInBounds_toArray, List.set_cons_zero, List.set_cons_succ]
      refine wpAnyH_take (i := 8) (oi := { dst := some 75, op := Go.Op.load 4 (Go.Operand.tmp 74), type := 4, pos := "interp.go:106", after := #[{ on := 7, ground := Go.Ground.data }], guard := none }) (v := ?_) rfl (by kernel_rfl) (by kernel_rfl) (by kernel_rfl) (fun _ _ _ h => h) (Or.inl ⟨by rfl, ?_⟩) (by assumption) ?_
      rotate_left 1; · (intro wz hSw; (try dsimp only at hSw); go_simp; all_goals (try with_reducible rfl))
      try simp only [Act.put, List.setIfInBounds_toArray, List.set_cons_zero, List.set_cons_succ]
      refine wpAnyH_ready (rs := [6]) (by kernel_rfl) (by simp) ?_
      refine AllReadyH.cons (o := { dst := some 73, op := Go.Op.call { callee := Go.Callee.value (Go.Operand.func 97), args := #[Go.Operand.tmp 68, Go.Operand.tmp 70, Go.Operand.tmp 72], argTypes := #[9, 2, 2] }, type := 2, pos := "interp.go:106", after := #[{ on := 1, ground := Go.Ground.data }, { on := 3, ground := Go.Ground.data }, { on := 5, ground := Go.Ground.data }], guard := none }) rfl (fun K hK => ?_) AllReadyH.nil
      go_simp
      go_at_call 97; with_reducible refine (OP.out _).mono ?_
      rintro e w1 ⟨rfl, hb1⟩
      have hw1 : Below wc.heap.size wc w1 := below_then (below_drew (Below.refl wc.heap.size wc)) (Nat.le_refl _) hb1
      obtain ⟨⟨br, bv⟩, dS⟩ := KEEP.out _ hw1
      have hS1 := KEEP'.out _ hw1
      obtain ⟨s0, s1, s2, s3, t0, t1, t2, t3⟩ := cells4 bv
      obtain ⟨r0, r1, r2, r3, f0, f1, f2, f3⟩ := cells4 br
      clear hHeld
      first | refine hK.out _ _ ?_ (fun hHeld => ?_) | (go_wp2_with fail; refine hK.out _ _ ?_ (fun hHeld => ?_))
      · repeat (first | with_reducible assumption | with_reducible refine KSET.out _ _ _ ?_)
      clear hK K
      try simp only [Act.put, List.setIfInBounds_toArray, List.set_cons_zero, List.set_cons_succ]
      refine wpAnyH_take (i := 9) (oi := { dst := some 76, op := Go.Op.move (Go.Operand.tmp 75), type := 4, pos := "interp.go:106", after := #[{ on := 8, ground := Go.Ground.data }, { on := 6, ground := Go.Ground.chain }], guard := none }) (v := ?_) rfl (by kernel_rfl) (by kernel_rfl) (by kernel_rfl) (fun _ _ _ h => h) (Or.inl ⟨by rfl, ?_⟩) (by assumption) ?_
      rotate_left 1; · (intro wz hSw; (try dsimp only at hSw); go_simp; all_goals (try with_reducible rfl))
      try simp only [Act.put, List.setIfInBounds_toArray, List.set_cons_zero, List.set_cons_succ]
      refine wpAnyH_take (i := 10) (oi := { dst := some 77, op := Go.Op.fieldAddr 35 (Go.Operand.tmp 8) 3, type := 0, pos := "interp.go:106", after := #[{ on := 9, ground := Go.Ground.guard }, { on := 14, ground := Go.Ground.gcOnly Go.Departure.lateStores }], guard := some (9, false) }) (v := undef) rfl (by kernel_rfl) (by kernel_rfl) (by kernel_rfl) (fun _ _ _ h => h) (Or.inr ⟨by rfl, rfl⟩) (by assumption) ?_
      try simp only [Act.put, List.setIfInBounds_toArray, List.set_cons_zero, List.set_cons_succ]
      refine wpAnyH_take (i := 11) (oi := { dst := some 78, op := Go.Op.load 4 (Go.Operand.tmp 77), type := 4, pos := "interp.go:106", after := #[{ on := 10, ground := Go.Ground.data }, { on := 9, ground := Go.Ground.guard }, { on := 14, ground := Go.Ground.gcOnly Go.Departure.lateStores }], guard := some (9, false) }) (v := undef) rfl (by kernel_rfl) (by kernel_rfl) (by kernel_rfl) (fun _ _ _ h => h) (Or.inr ⟨by rfl, rfl⟩) (by assumption) ?_
      try simp only [Act.put, List.setIfInBounds_toArray, List.set_cons_zero, List.set_cons_succ]
      refine wpAnyH_take (i := 12) (oi := { dst := some 79, op := Go.Op.pick (Go.Operand.tmp 76) (Go.Operand.const (Go.Value.bool true)) (Go.Operand.tmp 78), type := 4, pos := "interp.go:106", after := #[{ on := 9, ground := Go.Ground.data }, { on := 11, ground := Go.Ground.data }, { on := 14, ground := Go.Ground.gcOnly Go.Departure.lateStores }], guard := none }) (v := ?_) rfl (by kernel_rfl) (by kernel_rfl) (by kernel_rfl) (fun _ _ _ h => h) (Or.inl ⟨by rfl, ?_⟩) (by assumption) ?_
      rotate_left 1; · (intro wz hSw; (try dsimp only at hSw); go_simp; all_goals (try with_reducible rfl))
      try simp only [Act.put, List.setIfInBounds_toArray, List.set_cons_zero, List.set_cons_succ]
      refine wpAnyH_take (i := 13) (oi := { dst := some 80, op := Go.Op.fieldAddr 35 (Go.Operand.tmp 6) 1, type := 0, pos := "interp.go:106", after := #[{ on := 0, ground := Go.Ground.phase }, { on := 1, ground := Go.Ground.phase }, { on := 2, ground := Go.Ground.phase }, { on := 3, ground := Go.Ground.phase }, { on := 4, ground := Go.Ground.phase }, { on := 5, ground := Go.Ground.phase }, { on := 6, ground := Go.Ground.phase }, { on := 7, ground := Go.Ground.textOnly Go.Departure.lateStores }, { on := 8, ground := Go.Ground.textOnly Go.Departure.lateStores }, { on := 9, ground := Go.Ground.textOnly Go.Departure.lateStores }, { on := 10, ground := Go.Ground.textOnly Go.Departure.lateStores }, { on := 11, ground := Go.Ground.textOnly Go.Departure.lateStores }, { on := 12, ground := Go.Ground.textOnly Go.Departure.lateStores }], guard := none }) (v := ?_) rfl (by kernel_rfl) (by kernel_rfl) (by kernel_rfl) (fun _ _ _ h => h) (Or.inl ⟨by rfl, ?_⟩) (by assumption) ?_
      rotate_left 1; · (intro wz hSw; (try dsimp only at hSw); go_simp; all_goals (try with_reducible rfl))
      try simp only [Act.put, List.setIfInBounds_toArray, List.set_cons_zero, List.set_cons_succ]
      refine wpAnyH_ready (rs := [14]) (by kernel_rfl) (by simp) ?_
      refine AllReadyH.cons (o := { dst := none, op := Go.Op.store 2 (Go.Operand.tmp 80) (Go.Operand.tmp 73), type := 0, pos := "interp.go:106", after := #[{ on := 13, ground := Go.Ground.data }, { on := 6, ground := Go.Ground.data }, { on := 9, ground := Go.Ground.chain }, { on := 0, ground := Go.Ground.phase }, { on := 1, ground := Go.Ground.phase }, { on := 2, ground := Go.Ground.phase }, { on := 3, ground := Go.Ground.phase }, { on := 4, ground := Go.Ground.phase }, { on := 5, ground := Go.Ground.phase }, { on := 6, ground := Go.Ground.phase }, { on := 7, ground := Go.Ground.textOnly Go.Departure.lateStores }, { on := 8, ground := Go.Ground.textOnly Go.Departure.lateStores }, { on := 9, ground := Go.Ground.textOnly Go.Departure.lateStores }, { on := 10, ground := Go.Ground.textOnly Go.Departure.lateStores }, { on := 11, ground := Go.Ground.textOnly Go.Departure.lateStores }, { on := 12, ground := Go.Ground.textOnly Go.Departure.lateStores }], guard := none }) rfl (fun K hK => ?_) AllReadyH.nil
      go_simp
      first | refine hK.out _ _ ?_ (fun hHeld => ?_) | (go_wp2_with fail; refine hK.out _ _ ?_ (fun hHeld => ?_))
      · repeat (first | with_reducible assumption | with_reducible refine KSET.out _ _ _ ?_)
      clear hK K
      try simp only [Act.put, List.setIfInBounds_toArray, List.set_cons_zero, List.set_cons_succ]
      refine wpAnyH_take (i := 15) (oi := { dst := some 81, op := Go.Op.fieldAddr 35 (Go.Operand.tmp 6) 3, type := 0, pos := "interp.go:106", after := #[{ on := 0, ground := Go.Ground.phase }, { on := 1, ground := Go.Ground.phase }, { on := 2, ground := Go.Ground.phase }, { on := 3, ground := Go.Ground.phase }, { on := 4, ground := Go.Ground.phase }, { on := 5, ground := Go.Ground.phase }, { on := 6, ground := Go.Ground.phase }, { on := 7, ground := Go.Ground.phase }, { on := 8, ground := Go.Ground.phase }, { on := 9, ground := Go.Ground.phase }, { on := 10, ground := Go.Ground.phase }, { on := 11, ground := Go.Ground.phase }, { on := 12, ground := Go.Ground.phase }, { on := 13, ground := Go.Ground.phase }, { on := 14, ground := Go.Ground.phase }], guard := none }) (v := ?_) rfl (by kernel_rfl) (by kernel_rfl) (by kernel_rfl) (fun _ _ _ h => h) (Or.inl ⟨by rfl, ?_⟩) (by assumption) ?_
      rotate_left 1; · (intro wz hSw; (try dsimp only at hSw); go_simp; all_goals (try with_reducible rfl))
      try simp only [Act.put, List.setIfInBounds_toArray, List.set_cons_zero, List.set_cons_succ]
      refine wpAnyH_ready (rs := [16]) (by kernel_rfl) (by simp) ?_
      refine AllReadyH.cons (o := { dst := none, op := Go.Op.store 4 (Go.Operand.tmp 81) (Go.Operand.tmp 79), type := 0, pos := "interp.go:106", after := #[{ on := 15, ground := Go.Ground.data }, { on := 12, ground := Go.Ground.data }, { on := 14, ground := Go.Ground.chain }, { on := 0, ground := Go.Ground.phase }, { on := 1, ground := Go.Ground.phase }, { on := 2, ground := Go.Ground.phase }, { on := 3, ground := Go.Ground.phase }, { on := 4, ground := Go.Ground.phase }, { on := 5, ground := Go.Ground.phase }, { on := 6, ground := Go.Ground.phase }, { on := 7, ground := Go.Ground.phase }, { on := 8, ground := Go.Ground.phase }, { on := 9, ground := Go.Ground.phase }, { on := 10, ground := Go.Ground.phase }, { on := 11, ground := Go.Ground.phase }, { on := 12, ground := Go.Ground.phase }, { on := 13, ground := Go.Ground.phase }, { on := 14, ground := Go.Ground.phase }], guard := none }) rfl (fun K hK => ?_) AllReadyH.nil
      go_simp
      first | refine hK.out _ _ ?_ (fun hHeld => ?_) | (go_wp2_with fail; refine hK.out _ _ ?_ (fun hHeld => ?_))
      · repeat (first | with_reducible assumption | with_reducible refine KSET.out _ _ _ ?_)
      clear hK K
      try simp only [Act.put, List.setIfInBounds_toArray, List.set_cons_zero, List.set_cons_succ]
      refine wpAnyH_done (by kernel_rfl) (NoPanic.normal ?_) _
      all_goals
        clear KSET KEEP KEEP' OP
        go_wp2
        refine bodyPost_ret (results_cell_row rfl _ _ w.heap.size 35 #[.string X, .int .i64 r, .int .i64 n, .bool true] (0, 0) _ rfl ((blk_set (blk_set (blk_set (blk_set (blk_far (blk_far br l0 _) l0 _) 0 _) 1 _) 2 _) 3 _).trans rfl) Try.underlying35 rfl (by kernel_rfl)) rfl ⟨by simp_all, ?_⟩
        refine (((((below_then HWC.out HWC.out.size hw1).setCell ?_ _).setCell ?_ _).setCell ?_ _).setCell ?_ _ |>.setCell ?_ _).setCell ?_ _ <;> (dsimp only; omega)
end Go.Proofs.Ytmacollhnnachaa.Pr
