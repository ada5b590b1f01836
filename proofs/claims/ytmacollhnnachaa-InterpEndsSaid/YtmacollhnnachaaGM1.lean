/- The search of a name among a machine's variables, by slices.IndexFunc and the two closures. -/
import Derived.Test.YtmacollhnnachaaGLib
namespace Go.Proofs.Ytmacollhnnachaa.Pr
open Go.RowKit Go.Proofs.YtmacollhnnachaaW.PrintWords Go.Proofs.YtmacollhnnachaaW.PrintLast Go.Proofs.YtmacollhnnachaaW.PrintMore
open Go.Lib

/-- Is it the variable of a name? -/
def isV (name : ByteArray) (x : S35) : Bool := x.f0.toList == name.toList
/-- The place of a name's variable, or -1. -/
def idxV (vars : List S35) (name : ByteArray) : Int := match vars.findIdx? (isV name) with
  | some i => i
  | none => -1
theorem idxV_hit {vars : List S35} {name : ByteArray} {j : Nat} (hj : j < vars.length) (h : isV name vars[j] = true) (hb : ∀ i (h : i < j), isV name (vars[i]'(by omega)) = false) : idxV vars name = j := by
  unfold idxV
  have : vars.findIdx? (isV name) = some j := by
    rw [List.findIdx?_eq_some_iff_getElem]
    exact ⟨hj, h, fun i hi => by simpa using hb i hi⟩
  rw [this]
theorem idxV_miss {vars : List S35} {name : ByteArray} (hb : ∀ i (h : i < vars.length), isV name vars[i] = false) : idxV vars name = -1 := by
  unfold idxV
  have : vars.findIdx? (isV name) = none := by
    rw [List.findIdx?_eq_none_iff]
    intro x hx
    obtain ⟨i, hi, rfl⟩ := List.getElem_of_mem hx
    exact hb i hi
  rw [this]

theorem closure98 (B : Nat) (name : ByteArray) (w : World) (hB : B < w.heap.size) (hcell : w.cell? ⟨B, 0, none⟩ = some (.string name)) (W : World) (x : S35) (hb : Below w.heap.size w W) :
    Calls Try.prog 98 #[.agg #[.string x.f0, .int .i64 x.f1, .int .i64 x.f2, .bool x.f3], .pointer (some ⟨B, 0, none⟩)] W fun e w' => e = .returned (.bool (isV name x)) ∧ Below w.heap.size w w' := by
  have hc : W.cell? ⟨B, 0, none⟩ = some (.string name) := (hb.cell (p := ⟨B, 0, none⟩) hB).trans hcell
  have hBW : B < W.heap.size := Nat.lt_of_lt_of_le hB hb.size
  have hne : B ≠ W.heap.size := by omega
  unfold isV
  go_enter Try.func98, Try.ntmps98
  go_wp2
  go_ret
  exact ⟨rfl, hb.alloc hb.size _⟩
theorem closure70 (B : Nat) (name : ByteArray) (w : World) (hB : B < w.heap.size) (hcell : w.cell? ⟨B, 0, none⟩ = some (.string name)) (W : World) (x : S35) (hb : Below w.heap.size w W) :
    Calls Try.prog 70 #[.agg #[.string x.f0, .int .i64 x.f1, .int .i64 x.f2, .bool x.f3], .pointer (some ⟨B, 0, none⟩)] W fun e w' => e = .returned (.bool (isV name x)) ∧ Below w.heap.size w w' := by
  have hc : W.cell? ⟨B, 0, none⟩ = some (.string name) := (hb.cell (p := ⟨B, 0, none⟩) hB).trans hcell
  have hBW : B < W.heap.size := Nat.lt_of_lt_of_le hB hb.size
  have hne : B ≠ W.heap.size := by omega
  unfold isV
  go_enter Try.func70, Try.ntmps70
  go_wp2
  go_ret
  exact ⟨rfl, hb.alloc hb.size _⟩

set_option maxHeartbeats 1000000 in
theorem indexFunc (gf B : Nat) (eg : ∀ args w, (callFunc gf args).run Try.prog w = .ok (.enter gf args) w) (name : ByteArray) (A : Option Addr) (c : Nat) (vars : List S35) (w : World) (hC : Kd.C k35 w A vars.length vars)
    (hp : ∀ (W : World) (x : S35), Below w.heap.size w W → Calls Try.prog gf #[.agg #[.string x.f0, .int .i64 x.f1, .int .i64 x.f2, .bool x.f3], .pointer (some ⟨B, 0, none⟩)] W fun e w' => e = .returned (.bool (isV name x)) ∧ Below w.heap.size w w') :
    Calls Try.prog 69 #[.slice A vars.length c, .func (.func gf) #[] #[.pointer (some ⟨B, 0, none⟩)]] w fun e w' => e = .returned (.int .i64 (idxV vars name)) ∧ Below w.heap.size w w' := by
  have hmax := hC.2.1
  have HC := Lib.hid hC
  have hu35 := Try.underlying35
  clear hC
  go_enter Try.func69, Try.ntmps69
  go_wp2
  go_loopg [5, 8] vars.length (fun gg _ s8 wr => ∃ kk : Nat, kk ≤ vars.length ∧ vars.length - kk ≤ gg ∧ s8 = .int .i64 kk ∧ Hid (Below w.heap.size w wr) ∧ Hid (∀ i (h : i < vars.length), i < kk → isV name vars[i] = false))
  case atStart => exact ⟨0, Nat.zero_le _, by omega, rfl, Below.refl _ w, fun i _ h => absurd h (Nat.not_lt_zero _)⟩
  case round =>
    obtain ⟨kk, hkk, hg, rfl, BW, AA⟩ := hrel
    by_cases hlt : kk < vars.length
    · have hltz : (kk : Int) < (vars.length : Int) := by omega
      obtain ⟨ad, e0, x0, x1, x2, x3⟩ := at_T35 (Kd.C_below HC.out BW.out) kk (by omega) hltz
      have hcall := hp wr (rd_T35 vars kk) BW.out
      have hrd : rd_T35 vars kk = vars[kk] := by unfold rd_T35; simp [List.getD, hlt]
      have HRD := Lib.hid hrd
      cases e0
      simp only [Int.toNat_natCast] at x0 x1 x2 x3
      clear hp hrd
      generalize hq : isV name (rd_T35 vars kk) = q at hcall
      have HQ := Lib.hid hq
      clear hq
      generalize rd_T35 vars kk = y at *
      cases q with
      | true =>
        go_wp2_with (go_at_fn gf; refine hcall.mono ?_; rintro e w' ⟨rfl, hb'⟩)
        go_ret
        refine ⟨?_, hb'⟩
        rw [idxV_hit hlt (by rw [← HRD.out]; exact HQ.out) (fun i hi => AA.out i (by omega) hi)]
        rfl
      | false =>
        go_wp2_with (go_at_fn gf; refine hcall.mono ?_; rintro e w' ⟨rfl, hb'⟩)
        go_roundg (vars.length - (kk + 1))
        case measure => omega
        case rel =>
          refine ⟨kk + 1, by omega, by omega, by go_num, hb', (show Hid _ from fun i hi hik => ?_)⟩
          by_cases e : i = kk
          · subst e
            rw [← HRD.out]; exact HQ.out
          · exact AA.out i hi (by omega)
    · have hltz : ¬ (kk : Int) < (vars.length : Int) := by omega
      have : kk = vars.length := by omega
      subst this
      go_wp2
      go_ret
      refine ⟨?_, BW.out⟩
      rw [idxV_miss (fun i hi => AA.out i hi hi)]
      rfl
end Go.Proofs.Ytmacollhnnachaa.Pr
