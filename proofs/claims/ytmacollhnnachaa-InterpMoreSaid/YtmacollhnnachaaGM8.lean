/- A statement that defines no name, done. -/
import Derived.Test.YtmacollhnnachaaGM7
namespace Go.Proofs.Ytmacollhnnachaa.Pr
open Go.RowKit Go.Proofs.YtmacollhnnachaaW.PrintWords Go.Proofs.YtmacollhnnachaaW.PrintLast Go.Proofs.YtmacollhnnachaaW.PrintMore
open Go.Lib

set_option maxHeartbeats 4000000 in
set_option maxRecDepth 100000 in
theorem step_next {w0 w : World} {g : Nat} {l : List S38} {ins : List Int} {ora : List Bool} {v : Value} {n : Int} (h : MI w0 w g l ins ora v)
    (hn0 : 0 ≤ n) (hn : n < (l.length : Int)) (hk : ¬ defK (rd_T38 l n).f0) (h7 : (rd_T38 l n).f0 ≠ 7) (h8 : (rd_T38 l n).f0 ≠ 8) (h9 : (rd_T38 l n).f0 ≠ 9) :
    Calls Try.prog 39 #[.pointer (some ⟨g, 0, none⟩), .int .i64 n] w fun e w' => e = .returned (.int .i64 (n + 1)) ∧ Below w.heap.size w w' := by
  have hg := h.lt
  have hll : l.length ≤ 9223372036854775807 := by obtain ⟨_, _, _, _, _, _, _, _, _, ⟨HL, _⟩, _⟩ := h; exact HL.2.1
  obtain ⟨ad, c0, hc2, hq, x0, x1, x2, x3, x4, x5, x6, x7⟩ := h.stmt hn0 hn
  have hu68 := Try.underlying68
  have hu38 := Try.underlying38
  have hne : g ≠ w.heap.size := by omega
  have n1 : (ad.add (n.toNat * 8)).block ≠ w.heap.size := by omega
  clear h
  have e7 : ((rd_T38 l n).f0 == 7) = false := by rw [beq_eq_false_iff_ne]; exact h7
  have e8 : ((rd_T38 l n).f0 == 8) = false := by rw [beq_eq_false_iff_ne]; exact h8
  have e9 : ((rd_T38 l n).f0 == 9) = false := by rw [beq_eq_false_iff_ne]; exact h9
  clear h7 h8 h9
  have HK := Lib.hid hk
  clear hk
  generalize rd_T38 l n = st at *
  obtain ⟨k, X, Y, Z, O, N, a, b⟩ := st
  dsimp only at *
  go_enter Try.func39, Try.ntmps39
  go_wp2_with fail
  refine (cfg_Def.calls k X Y Z O N a b ⟨#[]⟩ false _ (def_no HK.out)).mono ?_
  rintro e w1 ⟨rfl, hb1⟩
  have bs := blk_below (blk_new w (.cells #[.int .i64 k, .string X, .string Y, .string Z, .string O, .int .i64 N, .int .i64 a, .int .i64 b] 38)) hb1
  obtain ⟨q0, q1, q2, q3, q4, q5, q6, q7⟩ := cells8 bs
  have B1 := Lib.hid (below_then (below_alloc (Below.refl w.heap.size w) _) (by simp) hb1)
  have hs1 : w.heap.size < w1.heap.size := by have := hb1.size; simp at this; omega
  have hs2 : w.heap.size ≠ w1.heap.size := by omega
  clear hb1 bs x0 x1 x2 x3 x4 x5 x6 x7 hc2 n1
  go_wp2
  go_ret
  exact ⟨rfl, Below.alloc B1.out (by omega) _⟩

set_option maxHeartbeats 4000000 in
set_option maxRecDepth 100000 in
theorem step_jump {w0 w : World} {g : Nat} {l : List S38} {ins : List Int} {ora : List Bool} {v : Value} {n : Int} (h : MI w0 w g l ins ora v)
    (hn0 : 0 ≤ n) (hn : n < (l.length : Int)) (hk : ¬ defK (rd_T38 l n).f0) (h8 : (rd_T38 l n).f0 = 8) :
    Calls Try.prog 39 #[.pointer (some ⟨g, 0, none⟩), .int .i64 n] w fun e w' => e = .returned (.int .i64 ((rd_T38 l n).f6)) ∧ Below w.heap.size w w' := by
  have hg := h.lt
  have hll : l.length ≤ 9223372036854775807 := by obtain ⟨_, _, _, _, _, _, _, _, _, ⟨HL, _⟩, _⟩ := h; exact HL.2.1
  obtain ⟨ad, c0, hc2, hq, x0, x1, x2, x3, x4, x5, x6, x7⟩ := h.stmt hn0 hn
  have hu68 := Try.underlying68
  have hu38 := Try.underlying38
  have hne : g ≠ w.heap.size := by omega
  have n1 : (ad.add (n.toNat * 8)).block ≠ w.heap.size := by omega
  clear h
  have e7 : ((rd_T38 l n).f0 == 7) = false := by rw [beq_eq_false_iff_ne]; omega
  have e8 : ((rd_T38 l n).f0 == 8) = true := by rw [beq_iff_eq]; exact h8
  clear h8
  have HK := Lib.hid hk
  clear hk
  generalize rd_T38 l n = st at *
  obtain ⟨k, X, Y, Z, O, N, a, b⟩ := st
  dsimp only at *
  go_enter Try.func39, Try.ntmps39
  go_wp2_with fail
  refine (cfg_Def.calls k X Y Z O N a b ⟨#[]⟩ false _ (def_no HK.out)).mono ?_
  rintro e w1 ⟨rfl, hb1⟩
  have bs := blk_below (blk_new w (.cells #[.int .i64 k, .string X, .string Y, .string Z, .string O, .int .i64 N, .int .i64 a, .int .i64 b] 38)) hb1
  obtain ⟨q0, q1, q2, q3, q4, q5, q6, q7⟩ := cells8 bs
  have B1 := Lib.hid (below_then (below_alloc (Below.refl w.heap.size w) _) (by simp) hb1)
  have hs1 : w.heap.size < w1.heap.size := by have := hb1.size; simp at this; omega
  have hs2 : w.heap.size ≠ w1.heap.size := by omega
  clear hb1 bs x0 x1 x2 x3 x4 x5 x6 x7 hc2 n1
  go_wp2
  go_ret
  exact ⟨rfl, Below.alloc B1.out (by omega) _⟩

set_option maxHeartbeats 4000000 in
set_option maxRecDepth 100000 in
theorem step_ret {w0 w : World} {g : Nat} {l : List S38} {ins : List Int} {ora : List Bool} {v : Value} {n : Int} (h : MI w0 w g l ins ora v)
    (hn0 : 0 ≤ n) (hn : n < (l.length : Int)) (hk : ¬ defK (rd_T38 l n).f0) (h9 : (rd_T38 l n).f0 = 9) :
    Calls Try.prog 39 #[.pointer (some ⟨g, 0, none⟩), .int .i64 n] w fun e w' => e = .returned (.int .i64 (-1)) ∧ Below w.heap.size w w' := by
  have hg := h.lt
  have hll : l.length ≤ 9223372036854775807 := by obtain ⟨_, _, _, _, _, _, _, _, _, ⟨HL, _⟩, _⟩ := h; exact HL.2.1
  obtain ⟨ad, c0, hc2, hq, x0, x1, x2, x3, x4, x5, x6, x7⟩ := h.stmt hn0 hn
  have hu68 := Try.underlying68
  have hu38 := Try.underlying38
  have hne : g ≠ w.heap.size := by omega
  have n1 : (ad.add (n.toNat * 8)).block ≠ w.heap.size := by omega
  clear h
  have e7 : ((rd_T38 l n).f0 == 7) = false := by rw [beq_eq_false_iff_ne]; omega
  have e8 : ((rd_T38 l n).f0 == 8) = false := by rw [beq_eq_false_iff_ne]; omega
  have e9 : ((rd_T38 l n).f0 == 9) = true := by rw [beq_iff_eq]; exact h9
  clear h9
  have HK := Lib.hid hk
  clear hk
  generalize rd_T38 l n = st at *
  obtain ⟨k, X, Y, Z, O, N, a, b⟩ := st
  dsimp only at *
  go_enter Try.func39, Try.ntmps39
  go_wp2_with fail
  refine (cfg_Def.calls k X Y Z O N a b ⟨#[]⟩ false _ (def_no HK.out)).mono ?_
  rintro e w1 ⟨rfl, hb1⟩
  have bs := blk_below (blk_new w (.cells #[.int .i64 k, .string X, .string Y, .string Z, .string O, .int .i64 N, .int .i64 a, .int .i64 b] 38)) hb1
  obtain ⟨q0, q1, q2, q3, q4, q5, q6, q7⟩ := cells8 bs
  have B1 := Lib.hid (below_then (below_alloc (Below.refl w.heap.size w) _) (by simp) hb1)
  have hs1 : w.heap.size < w1.heap.size := by have := hb1.size; simp at this; omega
  have hs2 : w.heap.size ≠ w1.heap.size := by omega
  clear hb1 bs x0 x1 x2 x3 x4 x5 x6 x7 hc2 n1
  go_wp2
  go_ret
  exact ⟨rfl, Below.alloc B1.out (by omega) _⟩

set_option maxHeartbeats 4000000 in
set_option maxRecDepth 100000 in
theorem step_branch {w0 w : World} {g : Nat} {l : List S38} {ins : List Int} {ora : List Bool} {A : Option Addr} {c : Nat} {vars : List S35} {y : S35} {n : Int} (h : MI w0 w g l ins ora (.slice A vars.length c)) (hC : Kd.C k35 w A vars.length vars) (hy : vars.find? (isV (rd_T38 l n).f2) = some y)
    (hn0 : 0 ≤ n) (hn : n < (l.length : Int)) (hk : ¬ defK (rd_T38 l n).f0) (h7 : (rd_T38 l n).f0 = 7) {r : Int} (hr : (if hdB ora (y.f1 != 0) = true then (rd_T38 l n).f6 else (rd_T38 l n).f7) = r) :
    Calls Try.prog 39 #[.pointer (some ⟨g, 0, none⟩), .int .i64 n] w fun e w' => e = .returned (.int .i64 (r)) ∧ MI w0 w' g l ins ora.tail (.slice A vars.length c) ∧ KeepBut w w' g none := by
  have hg := h.lt
  have hll : l.length ≤ 9223372036854775807 := by obtain ⟨_, _, _, _, _, _, _, _, _, ⟨HL, _⟩, _⟩ := h; exact HL.2.1
  obtain ⟨ad, c0, hc2, hq, x0, x1, x2, x3, x4, x5, x6, x7⟩ := h.stmt hn0 hn
  have hu68 := Try.underlying68
  have hu38 := Try.underlying38
  have hne : g ≠ w.heap.size := by omega
  have n1 : (ad.add (n.toNat * 8)).block ≠ w.heap.size := by omega
  have fd1 := field35_1
  have H := Lib.hid h
  have OF := Lib.hid (show ∀ V, Below w.heap.size w V → Calls Try.prog 72 #[.pointer (some ⟨g, 0, none⟩), .string (rd_T38 l n).f2] V fun e w' => e = .returned (.agg #[.string y.f0, .int .i64 y.f1, .int .i64 y.f2, .bool y.f3]) ∧ Below w.heap.size w w' ∧ Below V.heap.size V w' from fun V hV =>
    (of_calls (h.below hV) (Kd.C_below hC hV) hy).mono fun e w' ⟨he, hb⟩ => ⟨he, below_then hV hV.size hb, hb⟩)
  have AN := Lib.hid (show ∀ V, Below w.heap.size w V → Calls Try.prog 71 #[.pointer (some ⟨g, 0, none⟩), .bool (y.f1 != 0)] V fun e w' => e = .returned (.bool (hdB ora (y.f1 != 0))) ∧ MI w0 w' g l ins ora.tail (.slice A vars.length c) ∧ KeepBut V w' g none from fun V hV =>
    answer_calls (y.f1 != 0) (h.below hV))
  clear h hC hy
  have e7 : ((rd_T38 l n).f0 == 7) = true := by rw [beq_iff_eq]; exact h7
  clear h7
  have HRR := Lib.hid hr
  clear hr
  have HK := Lib.hid hk
  clear hk
  generalize rd_T38 l n = st at *
  obtain ⟨k, X, Y, Z, O, N, a, b⟩ := st
  dsimp only at *
  go_enter Try.func39, Try.ntmps39
  go_wp2_with fail
  refine (cfg_Def.calls k X Y Z O N a b ⟨#[]⟩ false _ (def_no HK.out)).mono ?_
  rintro e w1 ⟨rfl, hb1⟩
  have bs := blk_below (blk_new w (.cells #[.int .i64 k, .string X, .string Y, .string Z, .string O, .int .i64 N, .int .i64 a, .int .i64 b] 38)) hb1
  obtain ⟨q0, q1, q2, q3, q4, q5, q6, q7⟩ := cells8 bs
  have B1 := Lib.hid (below_then (below_alloc (Below.refl w.heap.size w) _) (by simp) hb1)
  have hs1 : w.heap.size < w1.heap.size := by have := hb1.size; simp at this; omega
  have hs2 : w.heap.size ≠ w1.heap.size := by omega
  clear hb1 x0 x1 x2 x3 x4 x5 x6 x7 hc2 n1
  have BS := Lib.hid bs
  clear bs
  generalize hdB ora (y.f1 != 0) = q at *
  have bs2 := blk_drew (blk_alloc BS.out (.cells #[.string ⟨#[]⟩] 9))
  obtain ⟨u0, u1, u2, u3, u4, u5, u6, u7⟩ := cells8 bs2
  have BS2 := Lib.hid bs2
  have hs3 : w.heap.size < w1.heap.size + 1 := by omega
  clear bs2 BS
  cases q with
  | true =>
    go_wp2_with fail
    go_region_with (first | (go_at_call 72; (with_reducible refine (OF.out _ (below_drew (below_alloc B1.out _))).mono ?_); rintro e w2 ⟨rfl, hb2, hb2'⟩) | (go_at_call 71; (with_reducible refine (AN.out _ hb2).mono ?_); rintro e w3 ⟨rfl, hmi, hkb⟩))
    obtain ⟨t0, t1, t2, t3, t4, t5, t6, t7⟩ := cells8 (hkb.blk (blk_below BS2.out hb2') (by omega) (by simp))
    have HMI := Lib.hid hmi
    have HKB := Lib.hid (KeepBut.trans (KeepBut.of_below hb2 g none) hkb (.inl rfl))
    clear hmi hkb hb2 hb2'
    go_wp2
    go_ret
    exact ⟨by rw [← HRR.out]; rfl, HMI.out, HKB.out⟩
  | false =>
    go_wp2_with fail
    go_region_with (first | (go_at_call 72; (with_reducible refine (OF.out _ (below_drew (below_alloc B1.out _))).mono ?_); rintro e w2 ⟨rfl, hb2, hb2'⟩) | (go_at_call 71; (with_reducible refine (AN.out _ hb2).mono ?_); rintro e w3 ⟨rfl, hmi, hkb⟩))
    obtain ⟨t0, t1, t2, t3, t4, t5, t6, t7⟩ := cells8 (hkb.blk (blk_below BS2.out hb2') (by omega) (by simp))
    have HMI := Lib.hid hmi
    have HKB := Lib.hid (KeepBut.trans (KeepBut.of_below hb2 g none) hkb (.inl rfl))
    clear hmi hkb hb2 hb2'
    go_wp2
    go_ret
    exact ⟨by rw [← HRR.out]; rfl, HMI.out, HKB.out⟩
end Go.Proofs.Ytmacollhnnachaa.Pr
