/- A statement that defines a name, done. -/
import Derived.Test.YtmacollhnnachaaGM4
import Derived.Test.YtmacollhnnachaaGM5
import Derived.Test.YtmacollhnnachaaGM6
import Derived.Test.YtmacollhnnachaaF19
namespace Go.Proofs.Ytmacollhnnachaa.Pr
open Go.RowKit Go.Proofs.YtmacollhnnachaaW.PrintWords Go.Proofs.YtmacollhnnachaaW.PrintLast Go.Proofs.YtmacollhnnachaaW.PrintMore
open Go.Lib

theorem kb_below {w w' : World} {g : Nat} (h : Below w.heap.size w w') : KeepBut w w' g none := KeepBut.of_below h g none
theorem made_calls {w0 w : World} {g : Nat} {l : List S38} {ins ins' : List Int} {ora : List Bool} {A : Option Addr} {c : Nat} {vars : List S35} {n : Int} {x : S35} (h : MI w0 w g l ins ora (.slice A vars.length c)) (hC : Kd.C k35 w A vars.length vars) (hn0 : 0 ≤ n) (hn : n < (l.length : Int)) (hm : madeO vars ins n (rd_T38 l n) = some (x, ins')) :
    Calls Try.prog 68 #[.pointer (some ⟨g, 0, none⟩), .int .i64 n] w fun e w' => e = .returned (aggV x) ∧ MI w0 w' g l ins' ora (.slice A vars.length c) ∧ KeepBut w w' g none := by
  unfold madeO at hm
  by_cases c1 : (rd_T38 l n).f0 = 1
  · rw [if_pos c1] at hm
    cases hm
    exact (made_const h hn0 hn c1).mono fun e w' ⟨he, hb⟩ => ⟨he, h.below hb, kb_below hb⟩
  rw [if_neg c1] at hm
  by_cases c4 : (rd_T38 l n).f0 = 4
  · rw [if_pos c4] at hm
    cases hm
    exact made_source h hn0 hn c4
  rw [if_neg c4] at hm
  by_cases c5 : (rd_T38 l n).f0 = 5
  · rw [if_pos c5] at hm
    obtain ⟨y, hy, e⟩ := Option.map_eq_some_iff.1 hm
    cases e
    exact (made_clean h hn0 hn c5 hC hy).mono fun e w' ⟨he, hb⟩ => ⟨he, h.below hb, kb_below hb⟩
  rw [if_neg c5] at hm
  by_cases c3 : (rd_T38 l n).f0 = 3
  · rw [if_pos c3] at hm
    obtain ⟨y, hy, e⟩ := Option.map_eq_some_iff.1 hm
    cases e
    exact (made_copy h hn0 hn c3 hC hy).mono fun e w' ⟨he, hb⟩ => ⟨he, h.below hb, kb_below hb⟩
  rw [if_neg c3] at hm
  by_cases c2 : (rd_T38 l n).f0 = 2
  · rw [if_pos c2] at hm
    obtain ⟨y, hy, e⟩ := Option.bind_eq_some_iff.1 hm
    obtain ⟨z, hz, e⟩ := Option.bind_eq_some_iff.1 e
    obtain ⟨r, hr, e⟩ := Option.map_eq_some_iff.1 e
    cases e
    exact (made_op h hn0 hn c2 hC hy hz hr).mono fun e w' ⟨he, hb⟩ => ⟨he, h.below hb, kb_below hb⟩
  · rw [if_neg c2] at hm
    cases hm
def defK (k : Int) : Prop := k = 1 ∨ k = 2 ∨ k = 3 ∨ k = 4 ∨ k = 5
theorem def_yes {k N a b : Int} {X Y Z O : ByteArray} (h : defK k) : cfg_Def.f k X Y Z O N a b = some (X, true) := by
  unfold cfg_Def.f
  rcases h with rfl | rfl | rfl | rfl | rfl <;> simp
theorem def_no {k N a b : Int} {X Y Z O : ByteArray} (h : ¬ defK k) : cfg_Def.f k X Y Z O N a b = some (⟨#[]⟩, false) := by
  unfold defK at h
  unfold cfg_Def.f
  rw [if_neg (by omega), if_neg (by omega), if_neg (by omega), if_neg (by omega), if_neg (by omega)]
theorem cells8 {w : World} {g T : Nat} {a b c d e f i j : Value} (h : w.heap[g]? = some (.cells #[a, b, c, d, e, f, i, j] T (0, 0))) : w.cell? ⟨g, 0, none⟩ = some a ∧ w.cell? ⟨g, 1, none⟩ = some b ∧ w.cell? ⟨g, 2, none⟩ = some c ∧ w.cell? ⟨g, 3, none⟩ = some d ∧
    w.cell? ⟨g, 4, none⟩ = some e ∧ w.cell? ⟨g, 5, none⟩ = some f ∧ w.cell? ⟨g, 6, none⟩ = some i ∧ w.cell? ⟨g, 7, none⟩ = some j :=
  ⟨(blk_cell h 0).trans rfl, (blk_cell h 1).trans rfl, (blk_cell h 2).trans rfl, (blk_cell h 3).trans rfl, (blk_cell h 4).trans rfl, (blk_cell h 5).trans rfl, (blk_cell h 6).trans rfl, (blk_cell h 7).trans rfl⟩

set_option maxHeartbeats 4000000 in
set_option maxRecDepth 100000 in
theorem step_def {w0 w : World} {g gv c i : Nat} {l : List S38} {ins ins' : List Int} {ora : List Bool} {vars : List S35} {n : Int} {x : S35} (h : MI w0 w g l ins ora (.slice (some ⟨gv, 0, none⟩) vars.length c)) (hR : Kd.R k35 35 w w0.heap.size (fun k => k ≠ g) (.slice (some ⟨gv, 0, none⟩) vars.length c) vars)
    (hn0 : 0 ≤ n) (hn : n < (l.length : Int)) (hk : defK (rd_T38 l n).f0) (hm : madeO vars ins n (rd_T38 l n) = some (x, ins')) (hi : i < vars.length) (hix : idxV vars (rd_T38 l n).f1 = i) :
    Calls Try.prog 39 #[.pointer (some ⟨g, 0, none⟩), .int .i64 n] w fun e w' => e = .returned (.int .i64 (n + 1)) ∧ MI w0 w' g l ins' ora (.slice (some ⟨gv, 0, none⟩) vars.length c) ∧ Kd.R k35 35 w' w0.heap.size (fun k => k ≠ g) (.slice (some ⟨gv, 0, none⟩) vars.length c) (vars.set i x) ∧ Kept w w' (fun k => k = g ∨ k = gv) := by
  have hg := h.lt
  have hll : l.length ≤ 9223372036854775807 := by obtain ⟨_, _, _, _, _, _, _, _, _, ⟨HL, _⟩, _⟩ := h; exact HL.2.1
  obtain ⟨ad, c0, hc2, hq, x0, x1, x2, x3, x4, x5, x6, x7⟩ := h.stmt hn0 hn
  have hu68 := Try.underlying68
  have hu35 := Try.underlying35
  have hu38 := Try.underlying38
  have hne : g ≠ w.heap.size := by omega
  have n1 : (ad.add (n.toNat * 8)).block ≠ w.heap.size := by omega
  have H := Lib.hid h
  have HR := Lib.hid hR
  have MC := Lib.hid (show ∀ V, Below w.heap.size w V → Calls Try.prog 68 #[.pointer (some ⟨g, 0, none⟩), .int .i64 n] V fun e w' => e = .returned (aggV x) ∧ MI w0 w' g l ins' ora (.slice (some ⟨gv, 0, none⟩) vars.length c) ∧ KeepBut V w' g none from fun V hV =>
    made_calls (h.below hV) (Kd.C_below (Kd.R_reads' hR).2.2 hV) hn0 hn hm)
  have HIX := Lib.hid hix
  have hgv : gv ≠ g := HR.out.1 gv rfl
  have hgl : gv < w.heap.size := by obtain ⟨inner, ho⟩ := Kd.R_own HR.out; exact own_lt ho gv rfl
  have hgb : w0.heap.size ≤ gv := by obtain ⟨inner, ho⟩ := Kd.R_own HR.out; exact own_base ho gv rfl
  have hnv : gv ≠ w.heap.size := by omega
  clear h hR hm hix
  have e7 : ((rd_T38 l n).f0 == 7) = false := by unfold defK at hk; rw [beq_eq_false_iff_ne]; omega
  have e8 : ((rd_T38 l n).f0 == 8) = false := by unfold defK at hk; rw [beq_eq_false_iff_ne]; omega
  have e9 : ((rd_T38 l n).f0 == 9) = false := by unfold defK at hk; rw [beq_eq_false_iff_ne]; omega
  have HK := Lib.hid hk
  clear hk
  generalize rd_T38 l n = st at *
  obtain ⟨k, X, Y, Z, O, N, a, b⟩ := st
  dsimp only at *
  go_enter Try.func39, Try.ntmps39
  go_wp2_with fail
  refine (cfg_Def.calls k X Y Z O N a b X true _ (def_yes HK.out)).mono ?_
  rintro e w1 ⟨rfl, hb1⟩
  have bs := blk_below (blk_new w (.cells #[.int .i64 k, .string X, .string Y, .string Z, .string O, .int .i64 N, .int .i64 a, .int .i64 b] 38)) hb1
  have B1 := Lib.hid (below_then (below_alloc (Below.refl w.heap.size w) _) (by simp) hb1)
  have hs1 : w.heap.size < w1.heap.size := by have := hb1.size; simp at this; omega
  have BS := Lib.hid bs
  clear hb1 bs x0 x1 x2 x3 x4 x5 x6 x7 hc2 n1
  go_wp2_with fail
  refine (MC.out _ (below_alloc B1.out _)).mono ?_
  rintro e w3 ⟨rfl, hmi, hkb⟩
  unfold aggV
  have bx := hkb.blk (blk_new w1 (.cells #[.string X] 9)) (by omega) (by simp)
  have bs := hkb.blk (blk_alloc BS.out (.cells #[.string X] 9)) (by omega) (by simp)
  have hs3 : w1.heap.size < w3.heap.size := by have := hkb.1; simp at this; omega
  have R3 := Lib.hid (Kd.R_keep (Kd.R_below HR.out (below_alloc B1.out (.cells #[.string X] 9))) hkb (fun _ hk => hk))
  have M3 := Lib.hid hmi
  have K3 := Lib.hid (show Kept w w3 (fun k => k = g ∨ k = gv) from ⟨by omega, fun q hq1 hq2 => (hkb.2 q (by simp; omega) (fun e => hq2 (.inl e)) (by simp)).trans (below_alloc B1.out (.cells #[.string X] 9) |>.block q hq1)⟩)
  have BX := Lib.hid bx
  have BS3 := Lib.hid bs
  obtain ⟨_, _, _, _, _, _, _, _, hb3, _⟩ := hmi
  have hc3 : w3.cell? ⟨g, 3, none⟩ = some (.slice (some ⟨gv, 0, none⟩) vars.length c) := (blk_cell hb3 3).trans rfl
  have hg3 : g < w3.heap.size := blk_lt hb3
  have hne3 : g ≠ w3.heap.size := by omega
  have hne4 : w1.heap.size ≠ w3.heap.size := by omega
  clear hb3 hkb bx bs
  have eg : ∀ args w, (callFunc 70 args).run Try.prog w = .ok (.enter 70 args) w := enters_of Try.func70 (by kernel_rfl) rfl
  go_wp2_with fail
  have hcx : (w3.alloc (.cells #[.string x.f0, .int .i64 x.f1, .int .i64 x.f2, .bool x.f3] 35)).cell? ⟨w1.heap.size, 0, none⟩ = some (.string X) := (blk_cell (blk_alloc BX.out _) 0).trans rfl
  have hI := indexFunc 70 w1.heap.size eg X (some ⟨gv, 0, none⟩) c vars _ (Kd.C_alloc (Kd.R_reads' R3.out).2.2 _) (fun W y hb => closure70 w1.heap.size X (w3.alloc (.cells #[.string x.f0, .int .i64 x.f1, .int .i64 x.f2, .bool x.f3] 35)) (by simp; omega) hcx W y hb)
  rw [HIX.out] at hI
  refine hI.mono ?_
  clear hI
  rintro e w5 ⟨rfl, hb5⟩
  have kc3 : w5.cell? ⟨g, 3, none⟩ = some (.slice (some ⟨gv, 0, none⟩) vars.length c) := (hb5.cell (p := ⟨g, 3, none⟩) (by simp; omega)).trans ((pw_cell_below (below_alloc (Below.refl _ _) _) hc3))
  have bv := blk_below (blk_new w3 (.cells #[.string x.f0, .int .i64 x.f1, .int .i64 x.f2, .bool x.f3] 35)) hb5
  obtain ⟨s0, s1, s2, s3, _, _, _, _⟩ := cells4 bv
  have bs := blk_below (blk_alloc BS3.out (.cells #[.string x.f0, .int .i64 x.f1, .int .i64 x.f2, .bool x.f3] 35)) hb5
  obtain ⟨q0, _, _, _, _, _, _, _⟩ := cells8 bs
  have r5 := Kd.R_below (Kd.R_alloc R3.out (.cells #[.string x.f0, .int .i64 x.f1, .int .i64 x.f2, .bool x.f3] 35)) hb5
  obtain ⟨ad, e0, y0, y1, y2, y3⟩ := at_T35 (Kd.R_reads' r5).2.2 i (by omega) (by omega)
  obtain rfl : (⟨gv, 0, none⟩ : Addr) = ad := (by injection e0)
  simp only [add_plain, Int.toNat_natCast] at y0 y1 y2 y3
  obtain ⟨inner5, ho5⟩ := Kd.R_own r5
  obtain ⟨cur5, hcur5⟩ := own_typed ho5 gv rfl
  have f0 := blk_frozen hcur5 (i * 4)
  have f1 := blk_frozen hcur5 (i * 4 + 1)
  have f2 := blk_frozen hcur5 (i * 4 + 2)
  have f3 := blk_frozen hcur5 (i * 4 + 3)
  have hs5 : w3.heap.size < w5.heap.size := by have := hb5.size; simp at this; omega
  have M5 := Lib.hid ((M3.out.below (below_alloc (Below.refl _ _) _)).below hb5)
  have R5 := Lib.hid r5
  have K5 := Lib.hid (Kept.below (S := fun k => k = g ∨ k = gv) (Kept.alloc K3.out _) hb5)
  have hil : (i : Int) < (vars.length : Int) := by omega
  have hnw : gv ≠ w3.heap.size := by omega
  have hnw2 : gv ≠ w1.heap.size := by omega
  have hnw3 : w.heap.size ≠ gv := by omega
  clear e0 bv bs r5 ho5 hcur5 hb5 hcx hc3
  go_wp2
  go_region
  go_wp2
  go_ret
  have hg0 : w0.heap.size ≤ gv := hgb
  refine ⟨rfl, ?_, ?_, ?_⟩
  · exact ((((M5.out.far hg0 (by simp; omega) _).far hg0 (by simp; omega) _).far hg0 (by simp; omega) _).far hg0 (by simp; omega) _).below (below_drew (Below.refl _ _))
  · exact Kd.R_drew (R35_put R5.out i hi x)
  · exact Kept.drew (Kept.setCell (Kept.setCell (Kept.setCell (Kept.setCell K5.out (.inl (.inr rfl)) _) (.inl (.inr rfl)) _) (.inl (.inr rfl)) _) (.inl (.inr rfl)) _)
end Go.Proofs.Ytmacollhnnachaa.Pr
