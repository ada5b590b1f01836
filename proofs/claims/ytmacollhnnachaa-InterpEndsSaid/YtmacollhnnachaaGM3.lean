/- What a statement gives to the name that it defines. -/
import Derived.Test.YtmacollhnnachaaGM2
import Derived.Test.YtmacollhnnachaaF97
import Derived.Deep.RegionWith
import Derived.Outline
namespace Go.Proofs.Ytmacollhnnachaa.Pr
open Go.RowKit Go.Proofs.YtmacollhnnachaaW.PrintWords Go.Proofs.YtmacollhnnachaaW.PrintLast Go.Proofs.YtmacollhnnachaaW.PrintMore
open Go.Lib

def aggV (x : S35) : Value := .agg #[.string x.f0, .int .i64 x.f1, .int .i64 x.f2, .bool x.f3]
/-- What lies at a statement's place. -/
theorem MI.stmt {w0 w : World} {g : Nat} {l : List S38} {ins : List Int} {ora : List Bool} {v : Value} {n : Int} (h : MI w0 w g l ins ora v) (hn0 : 0 ≤ n) (hn : n < (l.length : Int)) :
    ∃ ad c0, w.cell? ⟨g, 2, none⟩ = some (.slice (some ad) l.length c0) ∧ (ad.add (n.toNat * 8)).block < w.heap.size ∧ w.cell? (ad.add (n.toNat * 8)) = some (.int .i64 (rd_T38 l n).f0) ∧
      w.cell? ⟨(ad.add (n.toNat * 8)).block, (ad.add (n.toNat * 8)).off + 1, none⟩ = some (.string (rd_T38 l n).f1) ∧ w.cell? ⟨(ad.add (n.toNat * 8)).block, (ad.add (n.toNat * 8)).off + 2, none⟩ = some (.string (rd_T38 l n).f2) ∧
      w.cell? ⟨(ad.add (n.toNat * 8)).block, (ad.add (n.toNat * 8)).off + 3, none⟩ = some (.string (rd_T38 l n).f3) ∧ w.cell? ⟨(ad.add (n.toNat * 8)).block, (ad.add (n.toNat * 8)).off + 4, none⟩ = some (.string (rd_T38 l n).f4) ∧
      w.cell? ⟨(ad.add (n.toNat * 8)).block, (ad.add (n.toNat * 8)).off + 5, none⟩ = some (.int .i64 (rd_T38 l n).f5) ∧ w.cell? ⟨(ad.add (n.toNat * 8)).block, (ad.add (n.toNat * 8)).off + 6, none⟩ = some (.int .i64 (rd_T38 l n).f6) ∧
      w.cell? ⟨(ad.add (n.toNat * 8)).block, (ad.add (n.toNat * 8)).off + 7, none⟩ = some (.int .i64 (rd_T38 l n).f7) := by
  obtain ⟨h1, h2, A0, c0, A1, c1, A2, c2, hb0, ⟨HL, _⟩, _⟩ := h
  obtain ⟨ad, e, x0, x1, x2, x3, x4, x5, x6, x7⟩ := at_T38 (Kd.C_below HL h1) n hn0 hn
  cases e
  exact ⟨ad, c0, (blk_cell hb0 2).trans rfl, World.block_lt_of_cell? w _ x0, x0, x1, x2, x3, x4, x5, x6, x7⟩
theorem MI.far {w0 w : World} {g : Nat} {l : List S38} {ins : List Int} {ora : List Bool} {v : Value} (h : MI w0 w g l ins ora v) {p : Addr} (hp : w0.heap.size ≤ p.block) (hg : g ≠ p.block) (u : Value) : MI w0 (w.setCell p u) g l ins ora v := by
  obtain ⟨h1, h2, A0, c0, A1, c1, A2, c2, hb0, r⟩ := h
  exact ⟨h1.setCell hp u, h2, A0, c0, A1, c1, A2, c2, blk_far hb0 hg u, r⟩
theorem MI.ge {w0 w : World} {g : Nat} {l : List S38} {ins : List Int} {ora : List Bool} {v : Value} (h : MI w0 w g l ins ora v) : w0.heap.size ≤ w.heap.size := h.1.size
theorem new3 (w : World) (o0 o1 o2 : Obj) : (((w.alloc o0).alloc o1).alloc o2).heap[w.heap.size]? = some o0 ∧ (((w.alloc o0).alloc o1).alloc o2).heap[w.heap.size + 1]? = some o1 ∧ (((w.alloc o0).alloc o1).alloc o2).heap[w.heap.size + 1 + 1]? = some o2 :=
  ⟨blk_alloc (blk_alloc (blk_new w o0) o1) o2, blk_alloc (by simpa using blk_new (w.alloc o0) o1) o2, by simpa using blk_new ((w.alloc o0).alloc o1) o2⟩
theorem field35_1 (s : ByteArray) (n m : Int) (t : Bool) (W : World) : (Instr.field 35 (.agg #[.string s, .int .i64 n, .int .i64 m, .bool t]) 1).run Try.prog W = .ok (.int .i64 n) W := by kernel_rfl
theorem field35_3 (s : ByteArray) (n m : Int) (t : Bool) (W : World) : (Instr.field 35 (.agg #[.string s, .int .i64 n, .int .i64 m, .bool t]) 3).run Try.prog W = .ok (.bool t) W := by kernel_rfl
theorem cells4 {w : World} {g T : Nat} {a b c d : Value} (h : w.heap[g]? = some (.cells #[a, b, c, d] T (0, 0))) : w.cell? ⟨g, 0, none⟩ = some a ∧ w.cell? ⟨g, 1, none⟩ = some b ∧ w.cell? ⟨g, 2, none⟩ = some c ∧ w.cell? ⟨g, 3, none⟩ = some d ∧
    w.frozen? ⟨g, 0, none⟩ = false ∧ w.frozen? ⟨g, 1, none⟩ = false ∧ w.frozen? ⟨g, 2, none⟩ = false ∧ w.frozen? ⟨g, 3, none⟩ = false :=
  ⟨(blk_cell h 0).trans rfl, (blk_cell h 1).trans rfl, (blk_cell h 2).trans rfl, (blk_cell h 3).trans rfl, blk_frozen h 0, blk_frozen h 1, blk_frozen h 2, blk_frozen h 3⟩
set_option maxHeartbeats 2000000 in
set_option maxRecDepth 100000 in
theorem made_const {w0 w : World} {g : Nat} {l : List S38} {ins : List Int} {ora : List Bool} {v : Value} {n : Int} (h : MI w0 w g l ins ora v) (hn0 : 0 ≤ n) (hn : n < (l.length : Int)) (hk : (rd_T38 l n).f0 = 1) :
    Calls Try.prog 68 #[.pointer (some ⟨g, 0, none⟩), .int .i64 n] w fun e w' => e = .returned (aggV ⟨(rd_T38 l n).f1, (rd_T38 l n).f5, n, false⟩) ∧ Below w.heap.size w w' := by
  unfold aggV
  have hg := h.lt
  obtain ⟨ad, c0, hc2, hq, x0, x1, x2, x3, x4, x5, x6, x7⟩ := h.stmt hn0 hn
  have hu68 := Try.underlying68
  have fd1 := field35_1
  have fd3 := field35_3
  have hu35 := Try.underlying35
  have hu38 := Try.underlying38
  have hne : g ≠ w.heap.size := by omega
  have n1 : (ad.add (n.toNat * 8)).block ≠ w.heap.size := by omega
  have n2 : (ad.add (n.toNat * 8)).block ≠ w.heap.size + 1 := by omega
  have n3 : (ad.add (n.toNat * 8)).block ≠ w.heap.size + 2 := by omega
  generalize rd_T38 l n = st at *
  obtain ⟨k, X, Y, Z, O, N, a, b⟩ := st
  dsimp only at *
  subst hk
  go_enter Try.func68, Try.ntmps68
  go_wp2
  refine bodyPost_ret (v := .agg #[.string X, .int .i64 N, .int .i64 n, .bool false]) ?_ rfl ⟨rfl, ?_⟩
  · simp [results, Try.results68, go_sem]
  · repeat (first | exact Below.refl _ _ | refine below_alloc ?_ _)
set_option maxHeartbeats 2000000 in
set_option maxRecDepth 100000 in
theorem made_source {w0 w : World} {g : Nat} {l : List S38} {ins : List Int} {ora : List Bool} {v : Value} {n : Int} (h : MI w0 w g l ins ora v) (hn0 : 0 ≤ n) (hn : n < (l.length : Int)) (hk : (rd_T38 l n).f0 = 4) :
    Calls Try.prog 68 #[.pointer (some ⟨g, 0, none⟩), .int .i64 n] w fun e w' => e = .returned (aggV ⟨(rd_T38 l n).f1, hdI ins, n, true⟩) ∧ MI w0 w' g l ins.tail ora v ∧ KeepBut w w' g none := by
  unfold aggV
  have hg := h.lt
  obtain ⟨ad, c0, hc2, hq, x0, x1, x2, x3, x4, x5, x6, x7⟩ := h.stmt hn0 hn
  have hu68 := Try.underlying68
  have fd1 := field35_1
  have fd3 := field35_3
  have hu35 := Try.underlying35
  have hu38 := Try.underlying38
  have hne : g ≠ w.heap.size := by omega
  have n1 : (ad.add (n.toNat * 8)).block ≠ w.heap.size := by omega
  have n2 : (ad.add (n.toNat * 8)).block ≠ w.heap.size + 1 := by omega
  have n3 : (ad.add (n.toNat * 8)).block ≠ w.heap.size + 2 := by omega
  have H := Lib.hid h
  clear h
  generalize rd_T38 l n = st at *
  obtain ⟨k, X, Y, Z, O, N, a, b⟩ := st
  dsimp only at *
  subst hk
  go_enter Try.func68, Try.ntmps68
  go_wp2_with fail
  refine (input_calls (H.out.below (below_alloc (below_alloc (below_alloc (Below.refl _ _) _) _) _))).mono ?_
  rintro e w1 ⟨rfl, hmi, hkb⟩
  have q3 := new3 w (.cells #[.string ⟨#[]⟩, .int .i64 0, .int .i64 0, .bool false] 35) (.cells #[.int .i64 4, .string X, .string Y, .string Z, .string O, .int .i64 N, .int .i64 a, .int .i64 b] 38) (.cells #[.string X, .int .i64 0, .int .i64 n, .bool false] 35)
  have br := hkb.blk q3.1 (by omega) (by simp)
  have bv := hkb.blk q3.2.2 (by omega) (by simp)
  obtain ⟨r0, r1, r2, r3, f0, f1, f2, f3⟩ := cells4 br
  obtain ⟨s0, s1, s2, s3, t0, t1, t2, t3⟩ := cells4 bv
  have hsz : w.heap.size + 2 < w1.heap.size := by have := hkb.1; simp at this; omega
  have BR := Lib.hid br
  have BV := Lib.hid bv
  have HMI := Lib.hid hmi
  have HKB := Lib.hid hkb
  clear br bv hmi hkb q3 x0 x1 x2 x3 x4 x5 x6 x7 hc2
  have hge := H.out.ge
  go_wp2
  refine bodyPost_ret (results_cell_row rfl _ _ w.heap.size 35 #[.string X, (.int .i64 (hdI ins)), .int .i64 n, .bool true] (0, 0) _ rfl ((blk_set (blk_set (blk_set (blk_set (blk_far (blk_far BR.out (by simp; omega) _) (by simp; omega) _) 0 _) 1 _) 2 _) 3 _).trans rfl) Try.underlying35 rfl (by kernel_rfl)) rfl ⟨rfl, ?_, ?_⟩
  · refine (((((HMI.out.far ?_ ?_ _).far ?_ ?_ _).far ?_ ?_ _).far ?_ ?_ _).far ?_ ?_ _).far ?_ ?_ _ <;> (simp; omega)
  · refine keep_far (keep_far (keep_far (keep_far (keep_far (keep_far (KeepBut.trans ((KeepBut.of_below (below_alloc (below_alloc (below_alloc (Below.refl _ _) _) _) _) g none)) HKB.out (.inl rfl)) ?_ _) ?_ _) ?_ _) ?_ _) ?_ _) ?_ _ <;> (simp; try omega)
set_option maxHeartbeats 2000000 in
set_option maxRecDepth 100000 in
theorem made_clean {w0 w : World} {g : Nat} {l : List S38} {ins : List Int} {ora : List Bool} {A : Option Addr} {c : Nat} {vars : List S35} {n : Int} (h : MI w0 w g l ins ora (.slice A vars.length c)) (hn0 : 0 ≤ n) (hn : n < (l.length : Int)) (hk : (rd_T38 l n).f0 = 5) {y : S35} (hC : Kd.C k35 w A vars.length vars) (hy : vars.find? (isV (rd_T38 l n).f2) = some y) :
    Calls Try.prog 68 #[.pointer (some ⟨g, 0, none⟩), .int .i64 n] w fun e w' => e = .returned (aggV ⟨(rd_T38 l n).f1, y.f1, n, false⟩) ∧ Below w.heap.size w w' := by
  unfold aggV
  have hg := h.lt
  obtain ⟨ad, c0, hc2, hq, x0, x1, x2, x3, x4, x5, x6, x7⟩ := h.stmt hn0 hn
  have hu68 := Try.underlying68
  have fd1 := field35_1
  have fd3 := field35_3
  have hu35 := Try.underlying35
  have hu38 := Try.underlying38
  have hne : g ≠ w.heap.size := by omega
  have n1 : (ad.add (n.toNat * 8)).block ≠ w.heap.size := by omega
  have n2 : (ad.add (n.toNat * 8)).block ≠ w.heap.size + 1 := by omega
  have n3 : (ad.add (n.toNat * 8)).block ≠ w.heap.size + 2 := by omega
  have H := Lib.hid h
  have HC := Lib.hid hC
  have HY := Lib.hid hy
  clear h hC hy
  generalize rd_T38 l n = st at *
  obtain ⟨k, X, Y, Z, O, N, a, b⟩ := st
  dsimp only at *
  subst hk
  go_enter Try.func68, Try.ntmps68
  go_wp2_with fail
  refine (of_calls (H.out.below (below_alloc (below_alloc (below_alloc (Below.refl _ _) _) _) _)) (Kd.C_alloc (Kd.C_alloc (Kd.C_alloc HC.out _) _) _) HY.out).mono ?_
  rintro e w1 ⟨rfl, hkb⟩
  have q3 := new3 w (.cells #[.string ⟨#[]⟩, .int .i64 0, .int .i64 0, .bool false] 35) (.cells #[.int .i64 5, .string X, .string Y, .string Z, .string O, .int .i64 N, .int .i64 a, .int .i64 b] 38) (.cells #[.string X, .int .i64 0, .int .i64 n, .bool false] 35)
  have br := blk_below q3.1 hkb
  have bv := blk_below q3.2.2 hkb
  obtain ⟨r0, r1, r2, r3, f0, f1, f2, f3⟩ := cells4 br
  obtain ⟨s0, s1, s2, s3, t0, t1, t2, t3⟩ := cells4 bv
  have hsz : w.heap.size + 2 < w1.heap.size := by have := hkb.size; simp at this; omega
  have BR := Lib.hid br
  have BV := Lib.hid bv
  have HKB := Lib.hid (below_then (below_alloc (below_alloc (below_alloc (Below.refl w.heap.size w) _) _) _) (by simp; omega) hkb)
  clear br bv hkb q3 x0 x1 x2 x3 x4 x5 x6 x7 hc2
  have hge := H.out.ge
  go_wp2
  refine bodyPost_ret (results_cell_row rfl _ _ w.heap.size 35 #[.string X, .int .i64 y.f1, .int .i64 n, .bool false] (0, 0) _ rfl ((blk_set (blk_set (blk_set (blk_set (blk_far BR.out (by simp; omega) _) 0 _) 1 _) 2 _) 3 _).trans rfl) Try.underlying35 rfl (by kernel_rfl)) rfl ⟨rfl, ?_⟩
  refine ((((HKB.out.setCell ?_ _).setCell ?_ _).setCell ?_ _).setCell ?_ _).setCell ?_ _ <;> (simp; try omega)
end Go.Proofs.Ytmacollhnnachaa.Pr
