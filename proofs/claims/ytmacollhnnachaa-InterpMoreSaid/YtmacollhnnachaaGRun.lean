/- A run of a flow. -/
import Derived.Test.YtmacollhnnachaaGM9
import Derived.Test.YtmacollhnnachaaF37
import Derived.IntWalk
namespace Go.Proofs.Ytmacollhnnachaa.Pr
open Go.RowKit Go.Proofs.YtmacollhnnachaaW.PrintWords Go.Proofs.YtmacollhnnachaaW.PrintLast Go.Proofs.YtmacollhnnachaaW.PrintMore
open Go.Lib

theorem gInfo33 : (Try.prog.info? 33).map (fun i => (i.zero, i.size, i.bytes)) = some (some (.agg #[.int .i64 0, .slice none 0 0]), 2, 32) := by kernel_rfl
def startV (s : ByteArray) : S35 := ⟨s, 0, -1, false⟩
def runO : Nat → List S38 → Int → Int → List S35 → List Int → List Bool → List S33 → Option (List S33)
  | 0, _, _, _, _, _, _, _ => none
  | k + 1, l, most, n, vars, ins, ora, out =>
    if 0 ≤ n ∧ n < (l.length : Int) ∧ (out.length : Int) < min most 1000 then
      (stepO l vars ins ora n).bind fun p => runO k l most p.1 p.2.1 p.2.2.1 p.2.2.2 (out ++ [⟨n, vars⟩])
    else some out
def interp_Run.f (l : List S38) (ins : List Int) (ora : List Bool) (most : Int) : Option (List S33) :=
  (cfg_Names.f (l.length + 2) l).bind fun ns => if ns.length ≤ 1000000 then runO 1002 l most 0 (ns.map startV) ins ora [] else none
theorem stepO_len {l : List S38} {vars vars' : List S35} {ins ins' : List Int} {ora ora' : List Bool} {n m : Int} (h : stepO l vars ins ora n = some (m, vars', ins', ora')) : vars'.length = vars.length := by
  unfold stepO at h
  split at h
  · obtain ⟨p, _, h⟩ := Option.bind_eq_some_iff.mp h
    split at h
    · cases h; simp
    · cases h
  · split at h
    · obtain ⟨p, _, h⟩ := Option.map_eq_some_iff.mp h
      cases h; rfl
    · split at h
      · cases h; rfl
      · split at h
        · cases h; rfl
        · cases h; rfl
set_option maxHeartbeats 4000000 in
set_option maxRecDepth 100000 in
theorem interp_Run.calls (A0 : Option Addr) (c0 : Nat) (l0 : List S38) (A1 : Option Addr) (c1 : Nat) (l1 : List Int) (A2 : Option Addr) (c2 : Nat) (l2 : List Bool) (a3 : Int) (r : List S33) (w : World) (hr0 : Kd.C k38 w A0 l0.length l0) (hc0 : l0.length ≤ c0) (hr1 : Kd.C (Kd.int .i64) w A1 l1.length l1) (hc1 : l1.length ≤ c1) (hr2 : Kd.C Kd.bool w A2 l2.length l2) (hc2 : l2.length ≤ c2) (h : interp_Run.f l0 l1 l2 a3 = some r) :
  Calls Try.prog 17 #[.slice A0 l0.length c0, .slice A1 l1.length c1, .slice A2 l2.length c2, .int .i64 a3] w fun e w' => ∃ v0_ : Value, e = .returned v0_ ∧ Kd.S k33 33 w' w.heap.size (fun _ => True) v0_ r ∧ Below w.heap.size w w' := by
  obtain ⟨ns, hns, h⟩ := Option.bind_eq_some_iff.mp h
  by_cases hlim : ns.length ≤ 1000000
  case neg => rw [if_neg hlim] at h; cases h
  rw [if_pos hlim] at h
  have hu68 := Try.underlying68
  have NM := Lib.hid (show ∀ V, Below w.heap.size w V → Calls Try.prog 37 #[.slice A0 l0.length c0] V fun e w' => ∃ v0_ : Value, e = .returned (v0_) ∧ Kd.R Kd.string 9 w' V.heap.size (fun _ => True) v0_ ns ∧ Below V.heap.size V w' from fun V hV =>
    cfg_Names.calls (l0.length + 2) A0 c0 l0 ns V (Kd.C_below hr0 hV) hc0 hns)
  have HM := Lib.hid (show ∀ (c : Array Value), c = #[.slice A1 l1.length c1, .slice A2 l2.length c2, .slice A0 l0.length c0, .slice none 0 0] → MI w (w.alloc (.cells c 68)) w.heap.size l0 l1 l2 (.slice none 0 0) from fun c hc => by
    subst hc
    exact ⟨below_alloc (Below.refl _ _) _, Nat.le_refl _, A0, c0, A1, c1, A2, c2, blk_new _ _, ⟨hr0, hc0⟩, ⟨hr1, hc1⟩, ⟨hr2, hc2⟩⟩)
  have HL := Lib.hid h
  clear hr0 hr1 hr2 hc0 hc1 hc2 h hns
  go_enter Try.func17, Try.ntmps17
  go_wp2_with (go_at_call 37; go_loud (with_reducible refine (NM.out _ ?_).mono ?_); go_loud (focus (repeat (first | with_reducible assumption | with_reducible exact Below.refl _ _ | with_reducible refine below_alloc ?_ _))); go_loud (rintro e w1 ⟨u, rfl, hR, hb⟩); go_loud (obtain ⟨A, c, rfl⟩ := Kd.R_slice hR))
  have hsz : w.heap.size + 1 ≤ w1.heap.size := by have := hb.size; simpa using this
  have hR2 : Kd.R Kd.string 9 w1 _ (fun k => k ≠ w.heap.size) (.slice A ns.length c) ns := Kd.R_mono (Kd.R_bound hR) (fun k hk => by have := hk.2.1; simp at this; omega)
  have NB := Lib.hid (Kd.C_foot_own hR2 (fun k hk => hk))
  have M1 := Lib.hid ((HM.out _ rfl).below hb)
  clear hR hR2 hb HM NM
  go_loopg [11, 23] (ns.length + 1) (fun kq v11 v23 wq => ∃ i : Nat, v23 = .int .i64 i ∧ kq + i = ns.length + 1 ∧ i ≤ ns.length ∧ ∃ v, Hid (MI w wq w.heap.size l0 l1 l2 v) ∧ Hid (Kd.R k35 35 wq w.heap.size (fun k => k ≠ w.heap.size ∧ w1.heap.size ≤ k) v ((ns.take i).map startV)) ∧ Hid (KeepBut w1 wq w.heap.size none))
  case atStart => exact ⟨0, rfl, rfl, Nat.zero_le _, .slice none 0 0, M1, Lib.hid (by simpa using Kd.R_nil _ _ _ _ _), Lib.hid (KeepBut.refl _ _ _)⟩
  case round =>
    obtain ⟨i, rfl, hki, hin, v, HI, HR, HK⟩ := hrel
    obtain ⟨Av, cv, rfl⟩ := Kd.R_slice HR.out
    by_cases hlt : i < ns.length
    case pos =>
      obtain ⟨k1, rfl⟩ : ∃ k1, gk = k1 + 1 := ⟨gk - 1, by omega⟩
      obtain ⟨ad, e1, hx⟩ := Kd.at_string (NB.out _ HK.out) (i : Int) (by omega) (by omega)
      cases e1
      obtain ⟨nm, hnm⟩ : ∃ nm, rdOf ByteArray.empty ns (i : Int) = nm := ⟨_, rfl⟩
      rw [hnm, Int.toNat_natCast] at hx
      have hrow : (ns.take (i + 1)).map startV = (ns.take i).map startV ++ [startV nm] := by
        rw [← hnm]; unfold rdOf
        rw [List.take_succ_eq_append_getElem hlt, List.map_append]
        simp [List.getD_eq_getElem?_getD, List.getElem?_eq_getElem hlt]
      have HROW := Lib.hid hrow
      clear hnm hrow
      have hsw : w1.heap.size ≤ wr.heap.size := HK.out.1
      have hMI := HI.out
      obtain ⟨B1, _, A0', c0', A1', c1', A2', c2', hb0, hrest⟩ := hMI
      have hv := (blk_cell hb0 3).trans rfl
      have hf := blk_frozen hb0 3
      have HBL := Lib.hid hb0
      have HB1 := Lib.hid B1
      have HREST := Lib.hid hrest
      clear hb0 B1 hrest
      have hlen : ((ns.take i).map startV).length ≤ 1000000 := by simp; omega
      have HLEN := Lib.hid hlen
      have hi0 : (0 : Int) ≤ (i : Int) := by omega
      have hi1 : (i : Int) < (ns.length : Int) := by omega
      have hi2 : IntKind.i64.wrap ((i : Int) + 1) = (i : Int) + 1 := IntWalk.i64_in _ (by omega)
      have hi3 := Lib.hid hlt
      have HKI := Lib.hid hki
      clear hlen hlt hki
      generalize hxs : (ns.take i).map startV = xs at *
      go_wp2_with ((with_reducible refine gate_builtin (b := .append) (xs := #[.tmp 31, .tmp 34]) rfl ?_); at_builtin; refine Kd.R_append k35 (w0 := w) w.heap.size rfl (.tmp 31) (.tmp 34) 31 35 (.agg #[.string ⟨#[]⟩, .int .i64 0, .int .i64 0, .bool false]) 40 rfl Try.underlying31 gInfo35 rfl (by decide) (by omega) (.slice Av xs.length cv) xs (startV nm) [.string nm, .int .i64 0, .int .i64 (-1), .bool false] (fun k => k ≠ w.heap.size ∧ w1.heap.size ≤ k) (fun _ => False) rfl rfl ?aP (fun _ hk => hk.elim) ?aF ?aO ?aB ?aS ?aL ?_; (case aP => exact k35_mkM _ _ _ (startV nm)); (case aB => exact HB1.out); (case aF => exact (fun k_ hk => ⟨by omega, by omega⟩)); (case aO => exact HR.out); (case aS => omega); (case aL => have := HLEN.out; omega); intro v1 w2 ho hb hg hat; obtain ⟨A3, c3, rfl⟩ := Kd.R_slice ho; have HO := Lib.hid ho; have HB := Lib.hid hb; have HG := Lib.hid hg; clear ho hb hg hat; have hb2 := blk_grown HBL.out HG.out (Kd.R_away HR.out (fun _ hk => hk.1)); have hv2 := (blk_cell hb2 3).trans rfl; have hf2 := blk_frozen hb2 3; have HBL2 := Lib.hid hb2; clear hb2)
      go_roundg k1
      case measure => omega
      case rel =>
        refine ⟨i + 1, rfl, by have := HKI.out; omega, by have := hi3.out; omega, .slice A3 (xs.length + 1) c3, Lib.hid ?_, Lib.hid ?_, Lib.hid ?_⟩
        · exact ⟨HB.out.setCell (Nat.le_refl _) _, Nat.le_refl _, A0', c0', A1', c1', A2', c2', (blk_set HBL2.out 3 _).trans rfl, HREST.out⟩
        · rw [HROW.out]
          have h1 := Kd.R_keep HO.out (KeepBut.set_ (KeepBut.refl w2 w.heap.size none) 3 (.slice A3 (xs.length + 1) c3)) (fun k hk => hk.1)
          rw [List.length_append, List.length_singleton] at h1
          exact h1
        · refine (HK.out.trans (KeepBut.of_grown HG.out w.heap.size) ?_).set_ 3 _
          cases e : (Value.slice Av xs.length cv).ownBlock with
          | none => exact .inl rfl
          | some b => exact .inr ⟨b, rfl, (HR.out.1 b e).2⟩
    case neg =>
      obtain rfl : i = ns.length := by omega
      rw [List.take_length] at HI HR
      generalize hvs : ns.map startV = vs at *
      have hvl : vs.length ≤ 1000000 := by rw [← hvs]; simp; exact hlim
      clear hvs hki hin hlt
      go_wp2
      go_loopg [12, 13] 1002 (fun kq v12 v13 wq => ∃ (n : Int) (vars : List S35) (ins : List Int) (ora : List Bool) (out : List S33) (v : Value), v13 = .int .i64 n ∧ Hid (runO kq l0 a3 n vars ins ora out = some r) ∧ Hid (kq ≤ 1002) ∧ Hid (vars.length ≤ 1000000) ∧ Hid (MI w wq w.heap.size l0 ins ora v) ∧ Hid (Kd.R k35 35 wq w.heap.size (fun k => k ≠ w.heap.size) v vars) ∧ Hid (Kd.S k33 33 wq w.heap.size (fun k => k ≠ w.heap.size ∧ some k ≠ v.ownBlock) v12 out))
      case atStart => exact ⟨0, vs, l1, l2, [], _, rfl, HL, Lib.hid (Nat.le_refl _), Lib.hid hvl, HI, Lib.hid (Kd.R_mono HR.out (fun k hk => hk.1)), Lib.hid (Kd.S_nil _ _ _ _ _)⟩
      case round =>
        clear HI HR HK HL NB M1
        obtain ⟨n, vars, ins, ora, out, v, rfl, HA, HK1, HVL, HI, HR, HS⟩ := hrel
        cases gk with
        | zero => exact absurd HA.out (by simp [runO])
        | succ k1 =>
          have H := HA.out
          clear HA
          simp only [runO] at H
          obtain ⟨A12, c12, rfl⟩ := Kd.R_slice (Kd.S_R HS.out)
          by_cases c1 : 0 ≤ n
          case neg =>
            rw [if_neg (fun h => c1 h.1)] at H
            obtain rfl := Option.some.inj H
            have d1 : decide (0 ≤ n) = false := decide_eq_false c1
            go_wp2
            go_ret
            exact ⟨_, rfl, Kd.S_mono HS.out (fun _ _ => trivial), HI.out.1⟩

          have d1 : decide (0 ≤ n) = true := decide_eq_true c1
          by_cases c2 : n < (l0.length : Int)
          case neg =>
            rw [if_neg (fun h => c2 h.2.1)] at H
            obtain rfl := Option.some.inj H
            have d2 : decide (n < (l0.length : Int)) = false := decide_eq_false c2
            go_wp2
            go_ret
            exact ⟨_, rfl, Kd.S_mono HS.out (fun _ _ => trivial), HI.out.1⟩

          have d2 : decide (n < (l0.length : Int)) = true := decide_eq_true c2
          by_cases c3 : (out.length : Int) < min a3 1000
          case neg =>
            rw [if_neg (fun h => c3 h.2.2)] at H
            obtain rfl := Option.some.inj H
            have d3 : decide ((out.length : Int) < min a3 1000) = false := decide_eq_false c3
            go_wp2
            go_ret
            exact ⟨_, rfl, Kd.S_mono HS.out (fun _ _ => trivial), HI.out.1⟩

          have d3 : decide ((out.length : Int) < min a3 1000) = true := decide_eq_true c3
          rw [if_pos ⟨c1, c2, c3⟩] at H
          obtain ⟨⟨m, vars2, ins2, ora2⟩, hst, H⟩ := Option.bind_eq_some_iff.mp H
          dsimp only at H
          have HA := Lib.hid H
          have HST := Lib.hid hst
          have HOL := Lib.hid (show out.length < 1000 by omega)
          clear H hst
          obtain ⟨Av, cv, rfl⟩ := Kd.R_slice HR.out
          have C1 := Lib.hid c1
          have C2 := Lib.hid c2
          clear c1 c2 c3
          have hMI := HI.out
          obtain ⟨B1, _, A0', c0', A1', c1', A2', c2', hb0, hrest⟩ := hMI
          have hv := (blk_cell hb0 3).trans rfl
          have HBL := Lib.hid hb0
          have HB1 := Lib.hid B1
          have HREST := Lib.hid hrest
          clear hb0 B1 hrest
          have HCL := Lib.hid (show slices_Clone_lambrequin_interp_Var.f vars = some vars from if_pos (by have := HVL.out; omega))
          have HLT := Lib.hid HI.out.lt
          go_wp2_with (first | (go_at_call 38; with_reducible refine (slices_Clone_lambrequin_interp_Var.calls Av cv vars vars _ ?cR ?cL ?cF).mono ?_; (case cR => exact (Kd.R_reads' HR.out).2.2); (case cL => exact (Kd.R_reads' HR.out).2.1); (case cF => exact HCL.out); rintro e w2 ⟨u, rfl, hu, hb2⟩; obtain ⟨A5, c5, rfl⟩ := Kd.R_slice hu; have HU := Lib.hid hu; have HB2 := Lib.hid hb2; clear hu hb2) | ((with_reducible refine gate_builtin (b := .append) (xs := #[.tmp 54, .tmp 62]) rfl ?_); at_builtin; refine Kd.S_append k33 (w0 := w) w.heap.size rfl (.tmp 54) (.tmp 62) 29 33 (.agg #[.int .i64 0, .slice none 0 0]) 32 rfl Try.underlying29 gInfo33 rfl (by decide) (by omega) (.slice A12 out.length c12) out (⟨n, vars⟩ : S33) [.int .i64 n, .slice A5 vars.length c5] (fun k => k ≠ w.heap.size ∧ some k ≠ (Value.slice Av vars.length cv).ownBlock) (fun k => wr.heap.size ≤ k ∧ k < w2.heap.size) rfl rfl ?aP ?aK ?aF ?aO ?aB ?aS ?aL ?_; (case aP => exact k33_mkM _ _ _ (⟨n, vars⟩ : S33) (Kd.R_lower (Kd.R_mono (Kd.R_bound HU.out) (fun k hk => ⟨hk.2.1, hk.2.2.1⟩)) HB1.out.size)); (case aK => exact (fun k hk => ⟨⟨by have := hk.1; have := HLT.out; omega, fun e => by have := hk.1; have := Kd.R_lt HR.out k e.symm; omega⟩, fun e => by have := hk.1; have := Kd.S_lt HS.out k e.symm; omega⟩)); (case aF => exact (fun k hk => ⟨by have := HLT.out; have := HB2.out.size; omega, fun e => by have := Kd.R_lt HR.out k e.symm; have := HB2.out.size; omega⟩)); (case aO => exact Kd.S_below (Kd.S_mono (Kd.S_bound HS.out) (fun k hk => ⟨hk.1, fun h => by have := h.1; have := hk.2.2.1; omega⟩)) HB2.out); (case aB => exact below_then HB1.out HB1.out.size HB2.out); (case aS => exact Nat.le_trans HB1.out.size HB2.out.size); (case aL => have := HOL.out; omega); intro v3 w3 ho hb hg hat; obtain ⟨A6, c6, rfl⟩ := Kd.R_slice (Kd.S_R ho); have HO := Lib.hid ho; have HG := Lib.hid hg; have HB3 := Lib.hid hb; clear ho hg hb hat; have HM3 := Lib.hid (show MI w w3 w.heap.size l0 ins ora (.slice Av vars.length cv) from ⟨HB3.out, Nat.le_refl _, A0', c0', A1', c1', A2', c2', blk_grown (blk_below HBL.out HB2.out) HG.out (Kd.S_away HS.out (fun k hk => hk.1)), HREST.out.1, HREST.out.2.1, HREST.out.2.2⟩); have HR3 := Lib.hid (Kd.R_grown2 (Kd.R_below HR.out HB2.out) rfl HG.out (fun k hk => ((Kd.S_R HS.out).1 k hk).2))) | (go_at_call 39; with_reducible refine (step_calls HM3.out HR3.out C1.out C2.out HST.out).mono ?_; rintro e w4 ⟨rfl, hm4, hr4, hk4⟩; have HM4 := Lib.hid hm4; have HR4 := Lib.hid hr4; have HS4 := Lib.hid (Kd.S_kept HO.out hk4 (fun k hk hs => hs.elim (fun e => absurd e hk.1) (fun e => absurd e.symm hk.2))); clear hm4 hr4 hk4))
          go_roundg k1
          case measure => omega
          case rel =>
            refine ⟨m, vars2, ins2, ora2, out ++ [⟨n, vars⟩], .slice Av vars.length cv, rfl, HA, Lib.hid (by have := HK1.out; omega), Lib.hid (by rw [stepO_len HST.out]; exact HVL.out), HM4, HR4, Lib.hid ?_⟩
            have h := HS4.out
            rw [List.length_append, List.length_singleton] at h
            exact h
end Go.Proofs.Ytmacollhnnachaa.Pr
