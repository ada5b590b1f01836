/- A machine's script: the next input, and the oracle's next answer; and what a name has. -/
import Derived.Test.YtmacollhnnachaaGM1
namespace Go.Proofs.Ytmacollhnnachaa.Pr
open Go.RowKit Go.Proofs.YtmacollhnnachaaW.PrintWords Go.Proofs.YtmacollhnnachaaW.PrintLast Go.Proofs.YtmacollhnnachaaW.PrintMore
open Go.Lib

/-- The next input, and the oracle's next answer. -/
def hdI (l : List Int) : Int := l.headD 0
def hdB (l : List Bool) (b : Bool) : Bool := l.headD b
/-- A machine in block g: its flow, what is left of its script, and the slice of its variables. -/
def MI (w0 w : World) (g : Nat) (l : List S38) (ins : List Int) (ora : List Bool) (v : Value) : Prop :=
  Below w0.heap.size w0 w ∧ w0.heap.size ≤ g ∧ ∃ A0 c0 A1 c1 A2 c2,
    w.heap[g]? = some (.cells #[.slice A1 ins.length c1, .slice A2 ora.length c2, .slice A0 l.length c0, v] 68 (0, 0)) ∧
    (Kd.C k38 w0 A0 l.length l ∧ l.length ≤ c0) ∧ (Kd.C (Kd.int .i64) w0 A1 ins.length ins ∧ ins.length ≤ c1) ∧ (Kd.C Kd.bool w0 A2 ora.length ora ∧ ora.length ≤ c2)
theorem MI.below {w0 w w1 : World} {g : Nat} {l : List S38} {ins : List Int} {ora : List Bool} {v : Value} (h : MI w0 w g l ins ora v) (hb : Below w.heap.size w w1) : MI w0 w1 g l ins ora v := by
  obtain ⟨h1, h2, A0, c0, A1, c1, A2, c2, hb0, r⟩ := h
  exact ⟨below_then h1 h1.size hb, h2, A0, c0, A1, c1, A2, c2, blk_below hb0 hb, r⟩
theorem MI.lt {w0 w : World} {g : Nat} {l : List S38} {ins : List Int} {ora : List Bool} {v : Value} (h : MI w0 w g l ins ora v) : g < w.heap.size := by
  obtain ⟨_, _, _, _, _, _, _, _, hb0, _⟩ := h
  exact blk_lt hb0
theorem cut_tail {P : Program} {t e : TypeId} {kl : IntKind} {i : TypeInfo} {size : Nat} (ht : P.underlying t = some (.slice e)) (hi : P.info? e = some i) (hsz : i.size = size) (A : Option Addr) (n c m : Nat) (hm : m ≤ n) :
    ∀ W : World, (Instr.slice t (.slice A n c) (some (.int kl (m : Int))) none none).run P W = .ok (.slice (if c = m then A else A.map (·.add (m * size))) (n - m) (c - m)) W := fun W => by
  have hel : P.elem t = e := by simp [Program.elem, ht]
  have hu : P.underlying t = some (.slice (P.elem t)) := by rw [hel]; exact ht
  rw [run_slice_l W t A n c hu kl (m : Int) (Int.natCast_nonneg _) (by omega), hel]
  simp [sizeOf, typeInfo, hi, hsz, sliced, Result.andThen]
theorem KeepBut.of_set (w : World) (g j : Nat) (u : Value) : KeepBut w (w.setCell ⟨g, j, none⟩ u) g none := (KeepBut.refl w g none).set_ j u

set_option maxHeartbeats 1000000 in
set_option maxRecDepth 100000 in
theorem input_calls {w0 w : World} {g : Nat} {l : List S38} {ins : List Int} {ora : List Bool} {v : Value} (h : MI w0 w g l ins ora v) :
    Calls Try.prog 96 #[.pointer (some ⟨g, 0, none⟩)] w fun e w' => e = .returned (.int .i64 (hdI ins)) ∧ MI w0 w' g l ins.tail ora v ∧ KeepBut w w' g none := by
  have h0 := Lib.hid h
  obtain ⟨h1, h2, A0, c0, A1, c1, A2, c2, hb0, HL, ⟨HI, hI⟩, HO⟩ := h
  have hu66 := Try.underlying66
  cases ins with
  | nil =>
    have hc0 : w.cell? ⟨g, 0, none⟩ = some (.slice A1 0 c1) := (blk_cell hb0 0).trans rfl
    clear hb0 h1 h2 HL HI hI HO
    go_enter Try.func96, Try.ntmps96
    go_wp2
    go_ret
    exact ⟨rfl, h0.out, KeepBut.refl _ _ _⟩
  | cons x t =>
    obtain ⟨ad, e, hx⟩ := Kd.at_int (Kd.C_below HI h1) 0 (by omega) (by simp)
    cases e
    have hc0 : w.cell? ⟨g, 0, none⟩ = some (.slice (some ad) (t.length + 1) c1) := (blk_cell hb0 0).trans rfl
    have hf0 : w.frozen? ⟨g, 0, none⟩ = false := blk_frozen hb0 0
    obtain ⟨i0, hi, hz0, hz1, hz2⟩ := info_parts (show (Try.prog.info? 2).map (fun i => (i.zero, i.size, i.bytes)) = some (some (.int .i64 0), 1, 8) from info2)
    have hcut : ∀ W : World, (Instr.slice 23 (.slice (some ad) (t.length + 1) c1) (some (.int .i64 1)) none none).run Try.prog W = .ok (.slice (if c1 = 1 then some ad else (some ad).map (·.add (1 * 1))) t.length (c1 - 1)) W := cut_tail (kl := .i64) Try.underlying23 hi hz1 (some ad) (t.length + 1) c1 1 (by omega)
    have hD := Kd.C_drop (m := 1) HI (by simp) hI
    have hA : w.cell? ad = some (.int .i64 x) := by simpa [rd, Addr.add] using hx
    have HD := Lib.hid hD
    have HB0 := Lib.hid hb0
    have H1 := Lib.hid h1
    have H2 := Lib.hid h2
    have HL' := Lib.hid HL
    have HO' := Lib.hid HO
    have hI' := Lib.hid hI
    clear hx hb0 h1 h2 HL HO hD hI HI hi hz0 hz1 hz2
    generalize hA' : (if c1 = 1 then some ad else (some ad).map (·.add (1 * 1))) = A' at hcut
    have HA' := Lib.hid hA'
    clear hA'
    go_enter Try.func96, Try.ntmps96
    go_wp2
    go_ret
    refine ⟨rfl, ⟨H1.out.setCell H2.out _, H2.out, A0, c0, A', c1 - 1, A2, c2, ?_, HL'.out, ⟨?_, ?_⟩, HO'.out⟩, KeepBut.of_set _ _ _ _⟩
    · exact (blk_set HB0.out 0 _).trans rfl
    · rw [← HA'.out]; exact HD.out
    · have := hI'.out; simp at this ⊢; omega

set_option maxHeartbeats 1000000 in
set_option maxRecDepth 100000 in
theorem answer_calls {w0 w : World} {g : Nat} {l : List S38} {ins : List Int} {ora : List Bool} {v : Value} (b : Bool) (h : MI w0 w g l ins ora v) :
    Calls Try.prog 71 #[.pointer (some ⟨g, 0, none⟩), .bool b] w fun e w' => e = .returned (.bool (hdB ora b)) ∧ MI w0 w' g l ins ora.tail v ∧ KeepBut w w' g none := by
  have h0 := Lib.hid h
  obtain ⟨h1, h2, A0, c0, A1, c1, A2, c2, hb0, HL, HI, ⟨HO, hO⟩⟩ := h
  have hu66 := Try.underlying66
  cases ora with
  | nil =>
    have hc0 : w.cell? ⟨g, 1, none⟩ = some (.slice A2 0 c2) := (blk_cell hb0 1).trans rfl
    clear hb0 h1 h2 HL HI hO HO
    go_enter Try.func71, Try.ntmps71
    go_wp2
    go_ret
    exact ⟨rfl, h0.out, KeepBut.refl _ _ _⟩
  | cons x t =>
    obtain ⟨ad, e, hx⟩ := Kd.at_bool (Kd.C_below HO h1) 0 (by omega) (by simp)
    cases e
    have hc0 : w.cell? ⟨g, 1, none⟩ = some (.slice (some ad) (t.length + 1) c2) := (blk_cell hb0 1).trans rfl
    have hf0 : w.frozen? ⟨g, 1, none⟩ = false := blk_frozen hb0 1
    obtain ⟨i0, hi, hz0, hz1, hz2⟩ := info_parts (show (Try.prog.info? 4).map (fun i => (i.zero, i.size, i.bytes)) = some (some (.bool false), 1, 1) from info4)
    have hcut : ∀ W : World, (Instr.slice 24 (.slice (some ad) (t.length + 1) c2) (some (.int .i64 1)) none none).run Try.prog W = .ok (.slice (if c2 = 1 then some ad else (some ad).map (·.add (1 * 1))) t.length (c2 - 1)) W := cut_tail (kl := .i64) Try.underlying24 hi hz1 (some ad) (t.length + 1) c2 1 (by omega)
    have hD := Kd.C_drop (m := 1) HO (by simp) hO
    have hA : w.cell? ad = some (.bool x) := by simpa [rdOf, Addr.add] using hx
    have HD := Lib.hid hD
    have HB0 := Lib.hid hb0
    have H1 := Lib.hid h1
    have H2 := Lib.hid h2
    have HL' := Lib.hid HL
    have HI' := Lib.hid HI
    have hO' := Lib.hid hO
    clear hx hb0 h1 h2 HL HO hD hO HI hi hz0 hz1 hz2
    generalize hA' : (if c2 = 1 then some ad else (some ad).map (·.add (1 * 1))) = A' at hcut
    have HA' := Lib.hid hA'
    clear hA'
    go_enter Try.func71, Try.ntmps71
    go_wp2
    go_ret
    refine ⟨rfl, ⟨H1.out.setCell H2.out _, H2.out, A0, c0, A1, c1, A', c2 - 1, ?_, HL'.out, HI'.out, ⟨?_, ?_⟩⟩, KeepBut.of_set _ _ _ _⟩
    · exact (blk_set HB0.out 1 _).trans rfl
    · rw [← HA'.out]; exact HD.out
    · have := hO'.out; simp at this ⊢; omega

theorem idxV_find {vars : List S35} {name : ByteArray} {x : S35} (h : vars.find? (isV name) = some x) : ∃ i : Nat, i < vars.length ∧ idxV vars name = i ∧ rd_T35 vars i = x := by
  rw [List.find?_eq_some_iff_getElem] at h
  obtain ⟨hx, i, hi, rfl, hb⟩ := h
  refine ⟨i, hi, idxV_hit hi hx (fun j hj => by simpa using hb j hj), ?_⟩
  unfold rd_T35
  simp [List.getD, hi]

set_option maxHeartbeats 1000000 in
set_option maxRecDepth 100000 in
theorem of_calls {w0 w : World} {g : Nat} {l : List S38} {ins : List Int} {ora : List Bool} {A : Option Addr} {c : Nat} {vars : List S35} {name : ByteArray} {x : S35} (h : MI w0 w g l ins ora (.slice A vars.length c)) (hC : Kd.C k35 w A vars.length vars) (hx : vars.find? (isV name) = some x) :
    Calls Try.prog 72 #[.pointer (some ⟨g, 0, none⟩), .string name] w fun e w' => e = .returned (.agg #[.string x.f0, .int .i64 x.f1, .int .i64 x.f2, .bool x.f3]) ∧ Below w.heap.size w w' := by
  obtain ⟨i, hi, hix, hrx⟩ := idxV_find hx
  have hg := h.lt
  obtain ⟨h1, h2, A0, c0, A1, c1, A2, c2, hb0, _⟩ := h
  have hu68 := Try.underlying68
  have hu35 := Try.underlying35
  have hc3 : w.cell? ⟨g, 3, none⟩ = some (.slice A vars.length c) := (blk_cell hb0 3).trans rfl
  have eg : ∀ args w, (callFunc 98 args).run Try.prog w = .ok (.enter 98 args) w := enters_of Try.func98 (by kernel_rfl) rfl
  have hcon := indexFunc 98 w.heap.size eg name A c vars ((w.alloc (.cells #[.string name] 9)).alloc (.cells #[.string ⟨#[]⟩, .int .i64 0, .int .i64 0, .bool false] 35)) (Kd.C_alloc (Kd.C_alloc hC _) _) (fun W y hb => closure98 w.heap.size name _ (by simp; omega) (by simp) W y hb)
  rw [hix] at hcon
  have hrd : ∀ W : World, Below w.heap.size w W → ∃ ad, A = some ad ∧ W.cell? (ad.add (i * 4)) = some (.string x.f0) ∧ W.cell? ⟨(ad.add (i * 4)).block, (ad.add (i * 4)).off + 1, none⟩ = some (.int .i64 x.f1) ∧ W.cell? ⟨(ad.add (i * 4)).block, (ad.add (i * 4)).off + 2, none⟩ = some (.int .i64 x.f2) ∧ W.cell? ⟨(ad.add (i * 4)).block, (ad.add (i * 4)).off + 3, none⟩ = some (.bool x.f3) := fun W hb => by
    obtain ⟨ad, e, x0, x1, x2, x3⟩ := at_T35 (Kd.C_below hC hb) i (by omega) (by omega)
    rw [hrx] at x0 x1 x2 x3
    exact ⟨ad, e, x0, x1, x2, x3⟩
  have hil : (i : Int) < (vars.length : Int) := by omega
  have hne : g ≠ w.heap.size := by omega
  have hne' : g ≠ w.heap.size + 1 := by omega
  clear hb0 h1 h2 hx hix hrx hC
  go_enter Try.func72, Try.ntmps72
  go_wp2_with fail
  refine hcon.mono ?_
  rintro e w1 ⟨rfl, hb'⟩
  have hbw : Below w.heap.size w w1 := below_then (below_alloc (below_alloc (Below.refl _ _) _) _) (by simp; omega) hb'
  have k3 : w1.cell? ⟨g, 3, none⟩ = some (.slice A vars.length c) := (hbw.cell (p := ⟨g, 3, none⟩) hg).trans hc3
  obtain ⟨ad, e0, x0, x1, x2, x3⟩ := hrd w1 hbw
  have r0 : w1.cell? ⟨w.heap.size + 1, 0, none⟩ = some (.string ⟨#[]⟩) := (hb'.cell (p := ⟨w.heap.size + 1, 0, none⟩) (by simp)).trans (by simp)
  have r1 : w1.cell? ⟨w.heap.size + 1, 1, none⟩ = some (.int .i64 0) := (hb'.cell (p := ⟨w.heap.size + 1, 1, none⟩) (by simp)).trans (by simp)
  have r2 : w1.cell? ⟨w.heap.size + 1, 2, none⟩ = some (.int .i64 0) := (hb'.cell (p := ⟨w.heap.size + 1, 2, none⟩) (by simp)).trans (by simp)
  have r3 : w1.cell? ⟨w.heap.size + 1, 3, none⟩ = some (.bool false) := (hb'.cell (p := ⟨w.heap.size + 1, 3, none⟩) (by simp)).trans (by simp)
  have f0 : w1.frozen? ⟨w.heap.size + 1, 0, none⟩ = false := (hb'.frozen (p := ⟨w.heap.size + 1, 0, none⟩) (by simp)).trans (by simp)
  have f1 : w1.frozen? ⟨w.heap.size + 1, 1, none⟩ = false := (hb'.frozen (p := ⟨w.heap.size + 1, 1, none⟩) (by simp)).trans (by simp)
  have f2 : w1.frozen? ⟨w.heap.size + 1, 2, none⟩ = false := (hb'.frozen (p := ⟨w.heap.size + 1, 2, none⟩) (by simp)).trans (by simp)
  have f3 : w1.frozen? ⟨w.heap.size + 1, 3, none⟩ = false := (hb'.frozen (p := ⟨w.heap.size + 1, 3, none⟩) (by simp)).trans (by simp)
  have hsz : w.heap.size + 1 < w1.heap.size := by have := hb'.size; simp at this; omega
  have HBW := Lib.hid hbw
  have bk : w1.heap[w.heap.size + 1]? = some (.cells #[.string ⟨#[]⟩, .int .i64 0, .int .i64 0, .bool false] 35 (0, 0)) := (hb'.block _ (by simp)).trans (by simpa using heap_alloc_new (w.alloc (.cells #[.string name] 9)) (.cells #[.string ⟨#[]⟩, .int .i64 0, .int .i64 0, .bool false] 35))
  have BK := Lib.hid bk
  clear bk
  subst e0
  clear hb' hrd hcon hbw hc3
  go_wp2
  refine bodyPost_ret (results_cell_row rfl _ _ (w.heap.size + 1) 35 #[.string x.f0, .int .i64 x.f1, .int .i64 x.f2, .bool x.f3] (0, 0) _ rfl ((blk_set (blk_set (blk_set (blk_set BK.out 0 _) 1 _) 2 _) 3 _).trans rfl) Try.underlying35 rfl (by kernel_rfl)) rfl ⟨rfl, ?_⟩
  · exact (((HBW.out.setCell (Nat.le_succ _) _).setCell (Nat.le_succ _) _).setCell (Nat.le_succ _) _).setCell (Nat.le_succ _) _
end Go.Proofs.Ytmacollhnnachaa.Pr
