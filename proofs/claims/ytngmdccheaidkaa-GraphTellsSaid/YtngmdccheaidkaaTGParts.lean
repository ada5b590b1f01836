/- Texts of the seat, without what this claim does not use. -/
import Derived.Test.YtngmdccheaidkaaTGReached
import Derived.Test.YtngmdccheaidkaaTF45
import Derived.Deep.RegionLaw
/- graph.Parts, as a contract. -/
namespace Go.Proofs.Ytngmdccheaidkaa.Pr
open Go.RowKit Go.Proofs.YtngmdccheaidkaaW.PrintWords Go.Proofs.YtngmdccheaidkaaW.PrintLast Go.Proofs.YtngmdccheaidkaaW.PrintMore
open Go.Lib
set_option linter.unusedVariables false
def bAt (l : List Bool) (i : Nat) : Bool := l.getD i false
def toAt (tos : List (List Bool)) (x y : Nat) : Bool := bAt (tos.getD x []) y
def badP (tos : List (List Bool)) (done : List Bool) (x y : Nat) : Bool := toAt tos x y && !toAt tos y x && !bAt done y
def readyP (tos : List (List Bool)) (done : List Bool) (n x : Nat) : Bool := (List.range n).all (fun y => !badP tos done x y) && !bAt done x
theorem at_bools {w : World} {A : Option Addr} {n : Nat} {tos : List (List Bool)} (h : Kd.C (Kd.slice 4 Kd.bool) w A n tos) (hr : ∀ row ∈ tos, row.length = n) (x y : Nat) (hx : x < n) (hy : y < n) :
    ∃ ad A0 c0 ad0, A = some ad ∧ w.cell? (ad.add x) = some (.slice A0 n c0) ∧ A0 = some ad0 ∧ w.cell? (ad0.add y) = some (.bool (toAt tos x y)) := by
  obtain ⟨ad, A0, c0, e, hc, hl, hC⟩ := at_L6 h (x : Int) (by omega) (by omega)
  have hlen : (rd_L6 tos (x : Int)).length = n := by
    unfold rd_L6
    rw [Int.toNat_natCast, List.getD_eq_getElem?_getD, List.getElem?_eq_getElem (by rw [h.1]; exact hx)]
    exact hr _ (List.getElem_mem _)
  obtain ⟨ad0, e0, hc0⟩ := Kd.at_bool hC (y : Int) (by omega) (by omega)
  rw [hlen, Int.toNat_natCast] at hc
  rw [Int.toNat_natCast] at hc0
  exact ⟨ad, A0, c0, ad0, e, hc, e0, hc0⟩
set_option maxHeartbeats 2000000 in
set_option maxRecDepth 100000 in
theorem ready_calls {W : World} {g2 g7 g9 n ct cd : Nat} {At Ad : Option Addr} {tos : List (List Bool)} {done : List Bool} (h2 : W.cell? ⟨g2, 0, none⟩ = some (.int .i64 n)) (h7 : W.cell? ⟨g7, 0, none⟩ = some (.slice At n ct)) (h9 : W.cell? ⟨g9, 0, none⟩ = some (.slice Ad n cd))
    (hto : Kd.C (Kd.slice 4 Kd.bool) W At n tos) (hdone : Kd.C Kd.bool W Ad n done) (hrow : ∀ row ∈ tos, row.length = n) (x : Nat) (hx : x < n) (hn : n ≤ 1000000) :
    Calls Try.prog 47 #[.int .i64 x, .pointer (some ⟨g2, 0, none⟩), .pointer (some ⟨g7, 0, none⟩), .pointer (some ⟨g9, 0, none⟩)] W fun e w' => e = .returned (.bool (readyP tos done n x)) ∧ W = w' := by
  have HT := Lib.hid (And.intro hto hrow)
  have HD := Lib.hid hdone
  obtain ⟨adD, e, hdx⟩ := Kd.at_bool hdone (x : Int) (by omega) (by omega)
  subst e
  rw [Int.toNat_natCast] at hdx
  have hdx' : W.cell? (adD.add x) = some (.bool (bAt done x)) := hdx
  obtain ⟨adT, A0x, c0x, ad0x, rfl, hTx, rfl, _⟩ := at_bools hto hrow x x hx hx
  clear hto hdone hrow hdx
  go_enter Try.func47, Try.ntmps47
  go_wp2
  go_loop [8] (fun s8 => ∃ y : Nat, s8 = .int .i64 y ∧ y ≤ n ∧ Hid (∀ y', y' < y → badP tos done x y' = false)) (fun s8 => n - (intOf s8).toNat)
  case atStart => exact ⟨0, rfl, Nat.zero_le _, fun y' h => absurd h (Nat.not_lt_zero _)⟩
  case round =>
    obtain ⟨y, rfl, hyn, HY⟩ := hrel
    by_cases hlt : y < n
    · obtain ⟨adT1, A1, c1, ad1, e1, hT1, e1', hxy⟩ := at_bools HT.out.1 HT.out.2 x y hx hlt
      cases e1
      obtain ⟨adT2, A2, c2, ad2, e2, hT2, rfl, hyx⟩ := at_bools HT.out.1 HT.out.2 y x hlt hx
      cases e2
      obtain ⟨adD3, e3, hdy⟩ := Kd.at_bool HD.out (y : Int) (by omega) (by omega)
      cases e3
      rw [Int.toNat_natCast] at hdy
      have hdy' : W.cell? (adD.add y) = some (.bool (bAt done y)) := hdy
      clear hdy
      have hbad : badP tos done x y = (toAt tos x y && !toAt tos y x && !bAt done y) := rfl
      have HBAD := Lib.hid hbad
      have hrf : badP tos done x y = true → readyP tos done n x = false := fun h => by
        unfold readyP
        rw [List.all_eq_false.2 ⟨y, List.mem_range.2 hlt, by rw [h]; simp⟩, Bool.false_and]
      have HRF := Lib.hid hrf
      have hstep : badP tos done x y = false → ∀ y', y' < y + 1 → badP tos done x y' = false := fun h y' hy' => by
        by_cases e : y' = y
        · subst e; exact h
        · exact HY.out y' (by omega)
      have HST := Lib.hid hstep
      have hT1' := hT1.symm.trans hTx
      simp only [Option.some.injEq, Value.slice.injEq, true_and] at hT1'
      obtain ⟨e5, rfl⟩ := hT1'
      cases e5
      have hw1 : IntKind.i64.wrap ((y : Int) + 1) = (y : Int) + 1 := IntWalk.i64_in _ (by omega)
      clear hbad hrf hstep hT1 hdx' HY
      generalize toAt tos x y = a at *
      generalize toAt tos y x = b at *
      generalize bAt done y = c at *
      cases a
      · go_wp2
        go_round
        case rel => exact ⟨y + 1, by go_num, by omega, Lib.hid (HST.out (by rw [HBAD.out]; rfl))⟩
        case measure => simp [intOf]; omega
      · cases b
        · cases c
          · go_wp2
            go_ret
            exact ⟨by rw [HRF.out (by rw [HBAD.out]; rfl)]; rfl, rfl⟩
          · go_wp2
            go_round
            case rel => exact ⟨y + 1, by go_num, by omega, Lib.hid (HST.out (by rw [HBAD.out]; rfl))⟩
            case measure => simp [intOf]; omega
        · go_wp2
          go_round
          case rel => exact ⟨y + 1, by go_num, by omega, Lib.hid (HST.out (by rw [HBAD.out]; rfl))⟩
          case measure => simp [intOf]; omega
    · obtain rfl : y = n := by omega
      have hall : readyP tos done y x = !bAt done x := by
        unfold readyP
        rw [List.all_eq_true.2 (fun y' h => by rw [HY.out y' (List.mem_range.1 h)]; rfl), Bool.true_and]
      have HALL := Lib.hid hall
      clear hall HY
      generalize bAt done x = bx at *
      go_wp2
      go_ret
      exact ⟨by rw [HALL.out]; rfl, rfl⟩
theorem bcell5 {W w1 : World} (hb : Below W.heap.size W w1) : (∀ b o, b < W.heap.size → w1.cell? ⟨b, o, none⟩ = W.cell? ⟨b, o, none⟩) ∧ (∀ b o, b < W.heap.size → w1.frozen? ⟨b, o, none⟩ = W.frozen? ⟨b, o, none⟩) :=
  ⟨fun b o h => hb.cell (p := ⟨b, o, none⟩) h, fun b o h => hb.frozen (p := ⟨b, o, none⟩) h⟩
/-! ### Parts -/
def tosO (next : List (List Int)) : Nat → List (List Bool) → Nat → Option (List (List Bool))
  | 0, acc, _ => some acc
  | k + 1, acc, x => (graph_reached.f next (x : Int)).bind fun r => tosO next k (acc ++ [r]) (x + 1)
def firstReady (tos : List (List Bool)) (done : List Bool) (n : Nat) : Nat → Nat → Option Nat
  | 0, _ => none
  | k + 1, x => if readyP tos done n x = true then some x else firstReady tos done n k (x + 1)
def withP (tos : List (List Bool)) (x y : Nat) : Bool := toAt tos x y && toAt tos y x
/-- The part of x so far: its nodes below i; and what is done. -/
def partTo (tos : List (List Bool)) (x : Nat) (done : List Bool) : Nat → List Int × List Bool
  | 0 => ([], done)
  | i + 1 => if withP tos x i = true then ((partTo tos x done i).1 ++ [(i : Int)], (partTo tos x done i).2.set i true) else partTo tos x done i
def partsO (tos : List (List Bool)) (n : Nat) : Nat → List Bool → List (List Int) → Int → Option (List (List Int))
  | 0, _, _, _ => none
  | k + 1, done, out, left =>
    if 0 < left then (firstReady tos done n n 0).bind fun x => partsO tos n k (partTo tos x done n).2 (out ++ [(partTo tos x done n).1]) (left - ((partTo tos x done n).1.length : Int))
    else some out
def graph_Parts.f (n : Int) (l : List S27) : Option (List (List Int)) :=
  (graph_nexts.f (l.length + 2) n l).bind fun p =>
    if p.2 = true then
      if 0 ≤ n ∧ n ≤ 1000000 then
        (tosO p.1 n.toNat [] 0).bind fun tos =>
          if tos.length = n.toNat ∧ tos.all (fun row => row.length == n.toNat) = true then partsO tos n.toNat (n.toNat + 2) (List.replicate n.toNat false) [] n else none
      else none
    else some []
theorem gInfo40 : (Try.prog.info? 40).map (fun i => (i.zero, i.size, i.bytes)) = some (some (.slice none 0 0), 1, 24) := by kernel_rfl
theorem gInfo35 : (Try.prog.info? 35).map (fun i => (i.zero, i.size, i.bytes)) = some (some (.slice none 0 0), 1, 24) := by kernel_rfl
set_option maxHeartbeats 4000000 in
set_option maxRecDepth 100000 in
theorem graph_Parts.calls (a0 : Int) (A1 : Option Addr) (c1 : Nat) (l1 : List (S27)) (r : List (List Int)) (w : World) (hr1 : Kd.C k27 w A1 l1.length l1) (hc1 : l1.length ≤ c1) (h : graph_Parts.f a0 l1 = some r) :
  Calls Try.prog 18 #[.int .i64 a0, .slice A1 l1.length c1] w fun e w' => ∃ v0_ : Value, e = .returned v0_ ∧ Kd.S (Kd.slice 3 (Kd.int .i64)) 35 w' w.heap.size (fun _ => True) v0_ r ∧ Below w.heap.size w w' := by
  unfold graph_Parts.f at h
  obtain ⟨⟨next, ok⟩, hN, h⟩ := Option.bind_eq_some_iff.mp h
  dsimp only at h
  have NX := Lib.hid (show ∀ V, Below w.heap.size w V → Calls Try.prog 45 #[.int .i64 a0, .slice A1 l1.length c1] V fun e w' => ∃ v0_ : Value, e = .returned (.tuple #[v0_, .bool ok]) ∧ Kd.S (Kd.slice 3 (Kd.int .i64)) 35 w' V.heap.size (fun _ => True) v0_ next ∧ Below V.heap.size V w' from fun V hV =>
    graph_nexts.calls (l1.length + 2) a0 A1 c1 l1 next ok V (Kd.C_below hr1 hV) hc1 hN)
  have B1 := Lib.hid (below_alloc (Below.refl w.heap.size w) (.cells #[.int .i64 a0] 3 (0, 0)))
  have hb2 := blk_new w (.cells #[.int .i64 a0] 3 (0, 0))
  have c2 : (w.alloc (.cells #[.int .i64 a0] 3 (0, 0))).cell? ⟨w.heap.size, 0, none⟩ = some (.int .i64 a0) := (blk_cell hb2 0).trans rfl
  have HB2 := Lib.hid hb2
  have HL := Lib.hid h
  clear hr1 hc1 hN hb2 h
  cases ok
  · have h := HL.out
    rw [if_neg (by simp)] at h
    cases h
    clear HL
    go_enter Try.func18, Try.ntmps18
    go_wp2_with fail
    refine (NX.out _ B1.out).mono ?_
    rintro e w3 ⟨vn, rfl, hS3, hb3⟩
    have B3 := Lib.hid (below_then B1.out B1.out.size hb3)
    clear hS3 hb3 c2
    go_wp2
    go_ret
    exact ⟨_, rfl, Kd.S_nil _ _ _ _ _, B3.out⟩
  · have h := HL.out
    rw [if_pos rfl] at h
    by_cases hn : 0 ≤ a0 ∧ a0 ≤ 1000000
    case neg => rw [if_neg hn] at h; cases h
    rw [if_pos hn] at h
    obtain ⟨hn0, hn1⟩ := hn
    obtain ⟨n, rfl⟩ := Int.eq_ofNat_of_zero_le hn0
    rw [Int.toNat_natCast] at h
    obtain ⟨tos, hT, h⟩ := Option.bind_eq_some_iff.mp h
    by_cases hg : tos.length = n ∧ tos.all (fun row => row.length == n) = true
    case neg => rw [if_neg hg] at h; cases h
    rw [if_pos hg] at h
    have HP := Lib.hid h
    have HT := Lib.hid hT
    have HG := Lib.hid hg
    clear h hT hg HL
    go_enter Try.func18, Try.ntmps18
    go_wp2_with fail
    refine (NX.out _ B1.out).mono ?_
    rintro e w3 ⟨vn, rfl, hS3, hb3⟩
    have B3 := Lib.hid (below_then B1.out B1.out.size hb3)
    have hb23 := blk_below HB2.out hb3
    have c23 : w3.cell? ⟨w.heap.size, 0, none⟩ = some (.int .i64 (n : Int)) := (blk_cell hb23 0).trans rfl
    have hlt3 : w.heap.size < w3.heap.size := blk_lt hb23
    have HB23 := Lib.hid hb23
    obtain ⟨An, cn, rfl⟩ := Kd.S_slice hS3
    have HS3 := Lib.hid (Kd.S_reads' hS3)
    clear hS3 hb3 c2 hb23 B1 NX HB2
    go_wp2
    have hb7 := blk_new w3 (.cells #[.slice none 0 0] 86 (0, 0))
    have HX := Lib.hid (And.intro hb7 (below_alloc (Below.refl w3.heap.size w3) (.cells #[.slice none 0 0] 86 (0, 0))))
    clear hb7
    go_loopg [25] (n + 1) (fun kq s25 wq => ∃ (i : Nat) (acc : List (List Bool)) (v : Value), s25 = .int .i64 i ∧ kq + i = n + 1 ∧ i ≤ n ∧ Hid (tosO next (n - i) acc i = some tos) ∧ Hid (Below w3.heap.size w3 wq) ∧ Hid (wq.heap[w3.heap.size]? = some (.cells #[v] 86 (0, 0))) ∧ Hid (Kd.R (Kd.slice 4 Kd.bool) 40 wq w3.heap.size (fun _ => True) v acc) ∧ Hid (acc.length = i))
    case atStart => exact ⟨0, [], .slice none 0 0, rfl, rfl, Nat.zero_le _, HT, Lib.hid HX.out.2, Lib.hid HX.out.1, Lib.hid (Kd.R_nil _ _ _ _ _), Lib.hid rfl⟩
    case round =>
      clear HX HT
      obtain ⟨i, acc, v, rfl, hki, hin, HT, HBq, H7, HR, HAL⟩ := hrel
      obtain ⟨Av, cv, rfl⟩ := Kd.R_slice HR.out
      by_cases hlt : i < n
      · obtain ⟨k1, rfl⟩ : ∃ k1, gk = k1 + 1 := ⟨gk - 1, by omega⟩
        have hT := HT.out
        rw [show n - i = (n - (i + 1)) + 1 by omega, tosO] at hT
        obtain ⟨r1, hr1, hT⟩ := Option.bind_eq_some_iff.mp hT
        have HT2 := Lib.hid hT
        have RC := Lib.hid (show ∀ V, Below wr.heap.size wr V → Calls Try.prog 46 #[.slice An next.length cn, .int .i64 (i : Int)] V fun e w' => ∃ v0_ : Value, e = .returned v0_ ∧ Kd.R Kd.bool 4 w' w3.heap.size (fun k => wr.heap.size ≤ k) v0_ r1 ∧ Below wr.heap.size wr w' from fun V hV => by
          refine (graph_reached.calls An cn next (i : Int) r1 V (Kd.C_below (Kd.C_below HS3.out.2.2 HBq.out) hV) HS3.out.2.1 hr1).mono ?_
          rintro e w' ⟨v0, he, hR, hb⟩
          exact ⟨v0, he, Kd.R_lower (Kd.R_mono (Kd.R_bound (Kd.R_lower hR hV.size)) (fun k hk => hk.2.1)) HBq.out.size, below_then hV hV.size hb⟩)
        have c7 : wr.cell? ⟨w3.heap.size, 0, none⟩ = some (.slice Av acc.length cv) := (blk_cell H7.out 0).trans rfl
        have f7 := blk_frozen H7.out 0
        have h7lt : w3.heap.size < wr.heap.size := blk_lt H7.out
        have KI := Lib.hid hki
        have hw1 : IntKind.i64.wrap ((i : Int) + 1) = (i : Int) + 1 := IntWalk.i64_in _ (by omega)
        clear hT hr1 hki HT c23
        go_wp2
        go_region_law (first | (refine Kd.R_append_step (Kd.slice 4 Kd.bool) (w0 := w3) w3.heap.size (by rfl) (.tmp 28) (.tmp 32) 86 40 (.slice none 0 0) 24 rfl Try.underlying86 gInfo40 rfl (by decide) (by omega) (.slice Av acc.length cv) acc r1 [.slice A5 r1.length c5] (fun _ => True) (fun k => wr.heap.size ≤ k) rfl rfl ?aP ?aK ?aF ?aO ?aB ?aS ?aL ?_; (case aP => exact ⟨_, rfl, R5.out⟩); (case aK => exact (fun k hk => ⟨trivial, fun e => by have := Kd.R_lt HR.out k e.symm; omega⟩)); (case aF => exact (fun _ _ => trivial)); (case aO => exact Kd.R_below HR.out B5.out); (case aB => exact below_then HBq.out HBq.out.size B5.out); (case aS => have := B5.out.size; omega); (case aL => have := HAL.out; omega); intro v1 w6 ho hb hg hat; obtain ⟨A6, c6, rfl⟩ := Kd.R_slice ho; have HO := Lib.hid ho; have HB6 := Lib.hid hb; have h76 := blk_grown (blk_below H7.out B5.out) hg (Kd.R_ne (Kd.R_below HR.out B5.out) (blk_below H7.out B5.out) (by decide)); have H76 := Lib.hid h76; have c76 : w6.cell? ⟨w3.heap.size, 0, none⟩ = some (.slice Av acc.length cv) := (blk_cell h76 0).trans rfl; have f76 := blk_frozen h76 0; clear ho hb hg hat h76) | (go_simp; go_at_call 46; (first | (with_reducible refine (RC.out _ (below_drew (Below.refl _ wr))).mono ?_) | (with_reducible refine (RC.out _ (Below.refl _ wr)).mono ?_)); rintro e w5 ⟨v5, rfl, hR5, hb5⟩; obtain ⟨hc5, hf5⟩ := bcell5 hb5; obtain ⟨A5, c5, rfl⟩ := Kd.R_slice hR5; have hz0 := hb5.size; (have hz1 : w3.heap.size < w5.heap.size := by omega); (have hz2 : w3.heap.size ≠ w5.heap.size := by omega); have R5 := Lib.hid hR5; have B5 := Lib.hid hb5; clear hR5 hb5 hz0))
        all_goals
          clear hc5 hf5
          go_wp2
          go_roundg k1
          case measure => omega
          case rel =>
            have ho := HO.out
            rw [show (acc ++ [r1]).length = acc.length + 1 by simp] at ho
            exact ⟨i + 1, acc ++ [r1], .slice A6 (acc.length + 1) c6, by go_num, by have := KI.out; omega, by omega, HT2, Lib.hid (HB6.out.setCell (Nat.le_refl _) _), Lib.hid ((blk_set H76.out 0 _).trans rfl), Lib.hid (Kd.R_set ho H76.out (by decide) 0 _), Lib.hid (by simp [HAL.out])⟩
      · obtain rfl : i = n := by omega
        have hT := HT.out
        rw [Nat.sub_self, tosO] at hT
        obtain rfl := Option.some.inj hT
        clear hT HT hki
        have hlen : acc.length = i := HAL.out
        have hrows : ∀ row ∈ acc, row.length = i := fun row hrow => by
          have := List.all_eq_true.1 HG.out.2 row hrow
          simpa using this
        have h2T := blk_below HB23.out (show Below w3.heap.size w3 wr from HBq.out)
        have c2T : wr.cell? ⟨w.heap.size, 0, none⟩ = some (.int .i64 (i : Int)) := (blk_cell h2T 0).trans rfl
        have h2lt : w.heap.size < wr.heap.size := blk_lt h2T
        have H2T := Lib.hid h2T
        have TC := Lib.hid (Kd.R_reads' HR.out).2.2
        have TR := Lib.hid hrows
        have LN := Lib.hid hlen
        obtain ⟨wT, rfl⟩ : ∃ wT : World, wT = wr := ⟨_, rfl⟩
        clear hrows hlen h2T HR
        go_wp2_with ((with_reducible refine gate_dst (N := 36) rfl ?_); refine Kd.R_make Kd.bool (w0 := wT) wT.heap.size 4 rfl (N := 36) rfl 40 _ _ rfl (i : Int) rfl rfl Try.underlying40 (.bool false) 1 gInfoB rfl (by decide) (by omega) false (ok := fun _ => True) (okp := fun _ => True) rfl (fun _ hk => hk) trivial (by omega) (by simp; omega) (Below.refl _ _) (Nat.le_refl _) ?_; intro v1 w4 ho hb hg hnew; rw [Int.toNat_natCast] at ho; obtain ⟨Ad, cd, rfl⟩ := Kd.R_slice ho; have HO := Lib.hid ho; have HB4 := Lib.hid hb; have c24 : w4.cell? ⟨w.heap.size, 0, none⟩ = some (.int .i64 (i : Int)) := (hb.cell (p := ⟨w.heap.size, 0, none⟩) h2lt).trans c2T; have h24 : w.heap.size < w4.heap.size := Nat.lt_of_lt_of_le h2lt hb.size; clear ho hb hg hnew)
        have RD := Lib.hid (show ∀ (V : World) (done : List Bool) (x : Nat), Below wT.heap.size wT V → V.cell? ⟨w4.heap.size, 0, none⟩ = some (.slice Ad i cd) → Kd.C Kd.bool V Ad i done → x < i → Calls Try.prog 47 #[.int .i64 (x : Int), .pointer (some ⟨w.heap.size, 0, none⟩), .pointer (some ⟨w3.heap.size, 0, none⟩), .pointer (some ⟨w4.heap.size, 0, none⟩)] V fun e w' => e = .returned (.bool (readyP acc done i x)) ∧ V = w' from fun V done x hV h9 hD hx => by
          have h7 := blk_below H7.out hV
          have c7 : V.cell? ⟨w3.heap.size, 0, none⟩ = some (.slice Av acc.length cv) := (blk_cell h7 0).trans rfl
          have hC := Kd.C_below TC.out hV
          rw [LN.out] at c7 hC
          exact ready_calls (n := i) (((blk_cell (blk_below H2T.out hV)) 0).trans rfl) c7 h9 hC hD TR.out x hx (by omega))
        have AT := Lib.hid (show ∀ (V : World) (x y : Nat), Below wT.heap.size wT V → x < i → y < i → ∃ ad A0 c0 ad0, Av = some ad ∧ V.cell? (ad.add x) = some (.slice A0 i c0) ∧ A0 = some ad0 ∧ V.cell? (ad0.add y) = some (.bool (toAt acc x y)) from fun V x y hV hx hy => by
          have hC := Kd.C_below TC.out hV
          rw [LN.out] at hC
          exact at_bools hC TR.out x y hx hy)
        have C2 := Lib.hid (show ∀ V : World, Below wT.heap.size wT V → V.cell? ⟨w.heap.size, 0, none⟩ = some (.int .i64 (i : Int)) ∧ V.cell? ⟨w3.heap.size, 0, none⟩ = some (.slice Av i cv) from fun V hV => by
          have c7 : V.cell? ⟨w3.heap.size, 0, none⟩ = some (.slice Av acc.length cv) := (blk_cell (blk_below H7.out hV) 0).trans rfl
          rw [LN.out] at c7
          exact ⟨(blk_cell (blk_below H2T.out hV) 0).trans rfl, c7⟩)
        have hn9 := blk_new w4 (.cells #[.slice Ad i cd] 40 (0, 0))
        have S9 := Lib.hid (show (w4.alloc (.cells #[.slice Ad i cd] 40 (0, 0))).heap[w4.heap.size]? = some (.cells #[.slice Ad i cd] 40 (0, 0)) ∧ Below wT.heap.size wT (w4.alloc (.cells #[.slice Ad i cd] 40 (0, 0))) ∧ Kd.R Kd.bool 4 (w4.alloc (.cells #[.slice Ad i cd] 40 (0, 0))) wT.heap.size (fun _ => True) (.slice Ad i cd) (List.replicate i false) from by
          have ho := HO.out
          rw [List.length_replicate] at ho
          exact ⟨hn9, below_alloc HB4.out _, Kd.R_alloc ho _⟩)
        have h4T : wT.heap.size ≤ w4.heap.size := HB4.out.size
        have BT := Lib.hid (show Below w.heap.size w wT from below_then B3.out B3.out.size HBq.out)
        clear hn9 HO HB4 c2T c24
        go_loopg [11, 12] (i + 2) (fun kq v11 v12 wq => ∃ (done : List Bool) (out : List (List Int)) (left : Int), v12 = .int .i64 left ∧ Hid (partsO acc i kq done out left = some r) ∧ Hid (kq ≤ i + 2) ∧ Hid (left ≤ 1000000) ∧ Hid (out.length + kq = i + 2) ∧ Hid (Below wT.heap.size wT wq) ∧ Hid (wq.heap[w4.heap.size]? = some (.cells #[.slice Ad i cd] 40 (0, 0))) ∧ Hid (Kd.R Kd.bool 4 wq wT.heap.size (fun _ => True) (.slice Ad i cd) done) ∧ Hid (Kd.S (Kd.slice 3 (Kd.int .i64)) 35 wq wT.heap.size (fun _ => True) v11 out))
        case atStart => exact ⟨_, [], (i : Int), rfl, HP, Lib.hid (Nat.le_refl _), Lib.hid hn1, Lib.hid (by simp), Lib.hid S9.out.2.1, Lib.hid S9.out.1, Lib.hid S9.out.2.2, Lib.hid (Kd.S_nil _ _ _ _ _)⟩
        case round =>
          clear S9 HP
          obtain ⟨done, out, left, rfl, HA, HK, HLF, HOL, HBW, H9, HD, HS⟩ := hrel
          obtain ⟨Ao, co, rfl⟩ := Kd.S_slice HS.out
          cases gk with
          | zero => exact absurd HA.out (by simp [partsO])
          | succ k1 =>
            have H := HA.out
            clear HA
            rw [partsO] at H
            by_cases hleft : 0 < left
            case neg =>
              rw [if_neg hleft] at H
              obtain rfl := Option.some.inj H
              clear H
              go_wp2
              go_ret
              exact ⟨_, rfl, Kd.S_lower HS.out BT.out.size, below_then BT.out BT.out.size HBW.out⟩
            rw [if_pos hleft] at H
            obtain ⟨x, hx, H⟩ := Option.bind_eq_some_iff.mp H
            have HN := Lib.hid H
            have HX := Lib.hid hx
            clear H hx
            obtain ⟨wO, rfl⟩ : ∃ wO : World, wO = wr := ⟨_, rfl⟩
            have hDl : i = done.length := (Kd.R_reads' HD.out).1
            have hDC : Kd.C Kd.bool wO Ad i done := by have h := (Kd.R_reads' HD.out).2.2; rwa [← hDl] at h
            have c9 : wO.cell? ⟨w4.heap.size, 0, none⟩ = some (.slice Ad i cd) := (blk_cell H9.out 0).trans rfl
            have RDO := Lib.hid (show ∀ (x : Nat), x < i → Calls Try.prog 47 #[.int .i64 (x : Int), .pointer (some ⟨w.heap.size, 0, none⟩), .pointer (some ⟨w3.heap.size, 0, none⟩), .pointer (some ⟨w4.heap.size, 0, none⟩)] wO fun e w' => e = .returned (.bool (readyP acc done i x)) ∧ wO = w' from fun x hx => RD.out wO done x HBW.out c9 hDC hx)
            have DL := Lib.hid hDl
            clear hDl hDC c9
            go_wp2
            go_loopg [13] (i + 1) (fun kq v13 wq => ∃ x0 : Nat, v13 = .int .i64 x0 ∧ kq + x0 = i + 1 ∧ wq = wO ∧ Hid (firstReady acc done i (i - x0) x0 = some x))
            case atStart => exact ⟨0, rfl, rfl, rfl, HX⟩
            case round =>
              clear HX
              obtain ⟨x0, rfl, hkx, rfl, HX⟩ := hrel
              have hx := HX.out
              by_cases hxi : x0 < i
              case neg => rw [show i - x0 = 0 by omega, firstReady] at hx; cases hx
              rw [show i - x0 = (i - (x0 + 1)) + 1 by omega, firstReady] at hx
              by_cases hrdy : readyP acc done i x0 = true
              case neg =>
                rw [if_neg hrdy] at hx
                obtain ⟨k2, rfl⟩ : ∃ k2, gk = k2 + 1 := ⟨gk - 1, by omega⟩
                have hrf : readyP acc done i x0 = false := by simpa using hrdy
                have RC := RDO.out x0 hxi
                rw [hrf] at RC
                have RC := Lib.hid RC
                have HX2 := Lib.hid hx
                have hw1 : IntKind.i64.wrap ((x0 : Int) + 1) = (x0 : Int) + 1 := IntWalk.i64_in _ (by omega)
                have KX := Lib.hid hkx
                clear hx hrf hrdy hkx HX
                go_wp2_with (go_at_call 47; refine RC.out.mono ?_; rintro e w' ⟨rfl, rfl⟩)
                go_roundg k2
                case measure => omega
                case rel => exact ⟨x0 + 1, by go_num, by have := KX.out; omega, rfl, HX2⟩
              rw [if_pos hrdy] at hx
              obtain rfl := Option.some.inj hx
              have RC := RDO.out x0 hxi
              rw [hrdy] at RC
              have RC := Lib.hid RC
              clear hx hrdy hkx HX RDO
              have c2O := (C2.out _ HBW.out).1
              go_wp2_with (go_at_call 47; refine RC.out.mono ?_; rintro e w' ⟨rfl, rfl⟩)
              clear c2O
              obtain ⟨HI, hHI⟩ : ∃ HI : Nat, HI = wr.heap.size := ⟨_, rfl⟩
              have HII := Lib.hid hHI
              have hSO : Kd.S (Kd.slice 3 (Kd.int .i64)) 35 wr wT.heap.size (fun k => k < HI) (.slice Ao out.length co) out := by
                rw [hHI]; exact Kd.S_mono (Kd.S_bound HS.out) (fun k hk => hk.2.2.1)
              have HSO := Lib.hid hSO
              clear hSO hHI
              go_loopg [14, 48] (i + 1) (fun kq v14 v48 wq => ∃ (y : Nat) (part : List Int) (dn : List Bool), v48 = .int .i64 y ∧ kq + y = i + 1 ∧ y ≤ i ∧ Hid (partTo acc x0 done y = (part, dn)) ∧ Hid (part.length ≤ y) ∧ Hid (HI ≤ wq.heap.size) ∧ Hid (Below wT.heap.size wT wq) ∧ Hid (wq.heap[w4.heap.size]? = some (.cells #[.slice Ad i cd] 40 (0, 0))) ∧ Hid (Kd.R Kd.bool 4 wq wT.heap.size (fun _ => True) (.slice Ad i cd) dn) ∧ Hid (Kd.S (Kd.slice 3 (Kd.int .i64)) 35 wq wT.heap.size (fun k => k < HI) (.slice Ao out.length co) out) ∧ Hid (Kd.R (Kd.int .i64) 3 wq wT.heap.size (fun k => HI ≤ k) v14 part))
              case atStart => exact ⟨0, [], done, rfl, rfl, Nat.zero_le _, Lib.hid rfl, Lib.hid (Nat.zero_le _), Lib.hid (by rw [HII.out]; exact Nat.le_refl _), HBW, H9, HD, HSO, Lib.hid (Kd.R_nil _ _ _ _ _)⟩
              case round =>
                clear HBW H9 HD HSO HS HII
                obtain ⟨y, part, dn, rfl, hky, hyi, HPT, HPL, HHI, HBW, H9, HD, HSO, HR⟩ := hrel
                obtain ⟨Ap, cp, rfl⟩ := Kd.R_slice HR.out
                by_cases hly : y < i
                case pos =>
                  obtain ⟨k2, rfl⟩ : ∃ k2, gk = k2 + 1 := ⟨gk - 1, by omega⟩
                  obtain ⟨ad1, A1', c1', ad1', e1, t1, e1', t1'⟩ := AT.out _ x0 y HBW.out hxi hly
                  obtain ⟨ad2, A2', c2', ad2', e2, t2, e2', t2'⟩ := AT.out _ y x0 HBW.out hly hxi
                  subst e1 e1' e2'
                  cases e2
                  have c7 := (C2.out _ HBW.out).2
                  have hw1 : IntKind.i64.wrap ((y : Int) + 1) = (y : Int) + 1 := IntWalk.i64_in _ (by omega)
                  have hpt : partTo acc x0 done (y + 1) = if (toAt acc x0 y && toAt acc y x0) = true then (part ++ [(y : Int)], dn.set y true) else (part, dn) := by
                    rw [partTo, HPT.out]; rfl
                  have HPT2 := Lib.hid hpt
                  have KY := Lib.hid hky
                  clear hpt hky
                  generalize toAt acc x0 y = ta at *
                  generalize toAt acc y x0 = tb at *
                  cases ta
                  · go_wp2
                    go_roundg k2
                    case measure => omega
                    case rel => exact ⟨y + 1, part, dn, by go_num, by have := KY.out; omega, by omega, Lib.hid (by rw [HPT2.out]; rfl), Lib.hid (by have := HPL.out; omega), HHI, HBW, H9, HD, HSO, HR⟩
                  · cases tb
                    · go_wp2
                      go_roundg k2
                      case measure => omega
                      case rel => exact ⟨y + 1, part, dn, by go_num, by have := KY.out; omega, by omega, Lib.hid (by rw [HPT2.out]; rfl), Lib.hid (by have := HPL.out; omega), HHI, HBW, H9, HD, HSO, HR⟩
                    · have hdl : i = dn.length := (Kd.R_reads' HD.out).1
                      obtain ⟨gd, capd, ed, hgd, hgl, cellsd, hbd⟩ := Kd.R_form HD.out (by omega)
                      cases ed
                      have n9 : gd ≠ w4.heap.size := fun e => (Kd.R_ne HD.out H9.out (by decide)) (by rw [e]; rfl)
                      have hdl' := Lib.hid hdl
                      clear hbd cellsd hdl
                      have c9 : wr.cell? ⟨w4.heap.size, 0, none⟩ = some (.slice (some ⟨gd, 0, none⟩) dn.length cd) := (blk_cell H9.out 0).trans rfl
                      go_wp2_with ((with_reducible refine gate_builtin (b := .append) (xs := #[.tmp 67, .tmp 69]) rfl ?_); at_builtin; refine Kd.R_append (Kd.int .i64) (w0 := wT) wT.heap.size rfl (.tmp 67) (.tmp 69) 35 3 (.int .i64 0) 8 rfl Try.underlying35 gInfoI rfl (by decide) (by omega) (.slice Ap part.length cp) part (y : Int) [.int .i64 (y : Int)] (fun k => HI ≤ k) (fun _ => False) rfl rfl ?aP (fun _ hk => hk.elim) ?aF ?aO ?aB ?aS ?aL ?_; (case aP => exact rfl); (case aB => exact HBW.out); (case aF => exact (fun k hk => Nat.le_trans HHI.out hk)); (case aO => exact HR.out); (case aS => exact HBW.out.size); (case aL => have := HPL.out; omega); intro v1 w6 ho hb hg hat; obtain ⟨A6, c6, rfl⟩ := Kd.R_slice ho; have HO6 := Lib.hid ho; have HB6 := Lib.hid hb; have h96 := blk_grown H9.out hg (Kd.R_ne HR.out H9.out (by decide)); have H96 := Lib.hid h96; have c96 : w6.cell? ⟨w4.heap.size, 0, none⟩ = some (.slice (some ⟨gd, 0, none⟩) dn.length cd) := (blk_cell h96 0).trans rfl; have HD6 := Lib.hid (Kd.R_over HD.out HR.out (by decide) hg); have HSO6 := Lib.hid (Kd.S_grown HSO.out hg (fun k hk e => by have := HR.out.1 k e.symm; omega)); obtain ⟨hcd, hfd⟩ := Kd.R_cell false HD6.out (y : Int) (by omega) (by omega); rw [Int.toNat_natCast] at hcd hfd; have HSZ := Lib.hid (show HI ≤ w6.heap.size from by have := HHI.out; have := hg.size; omega); clear ho hb hg hat h96)
                      have HPd := Kd.R_put HD6.out (y : Int) true
                      rw [Int.toNat_natCast] at HPd
                      go_roundg k2
                      case measure => omega
                      case rel =>
                        have ho6 := HO6.out
                        rw [show (part ++ [(y : Int)]).length = part.length + 1 by simp] at ho6
                        exact ⟨y + 1, part ++ [(y : Int)], dn.set y true, by go_num, by have := KY.out; omega, by omega, Lib.hid (by rw [HPT2.out]; rfl), Lib.hid (by have := HPL.out; simp; omega), Lib.hid (by simpa using HSZ.out), Lib.hid (HB6.out.setCell hgd _), Lib.hid (blk_grown H96.out HPd.2 (fun e => n9 (by cases e; rfl))), Lib.hid HPd.1, Lib.hid (Kd.S_over' HSO6.out (Kd.R_typed HD6.out) (by decide) HPd.2), Lib.hid (Kd.R_over ho6 HD6.out (by decide) HPd.2)⟩
                case neg =>
                  obtain rfl : y = i := by omega
                  have hN := HN.out
                  rw [HPT.out] at hN
                  have HN2 := Lib.hid hN
                  have hw1 : IntKind.i64.wrap (left - (part.length : Int)) = left - (part.length : Int) := IntWalk.i64_in _ (by have := HLF.out; have := HPL.out; omega)
                  clear hN HN HPT hky
                  go_wp2_with ((with_reducible refine gate_builtin (b := .append) (xs := #[.tmp 75, .tmp 77]) rfl ?_); at_builtin; refine Kd.S_append (Kd.slice 3 (Kd.int .i64)) (w0 := wT) wT.heap.size rfl (.tmp 75) (.tmp 77) 32 35 (.slice none 0 0) 24 rfl Try.underlying32 gInfo35 rfl (by decide) (by omega) (.slice Ao out.length co) out part [.slice Ap part.length cp] (fun _ => True) (fun k => HI ≤ k) rfl rfl ?aP ?aK ?aF ?aO ?aB ?aS ?aL ?_; (case aP => exact ⟨_, rfl, HR.out⟩); (case aK => exact (fun k hk => ⟨trivial, fun e => by have := (Kd.S_R HSO.out).1 k e.symm; omega⟩)); (case aF => exact (fun _ _ => trivial)); (case aO => exact Kd.S_mono HSO.out (fun k hk => ⟨trivial, by omega⟩)); (case aB => exact HBW.out); (case aS => exact HBW.out.size); (case aL => have := HOL.out; omega); intro v1 w6 ho hb hg hat; obtain ⟨A6, c6, rfl⟩ := Kd.S_slice ho; have HO6 := Lib.hid ho; have HB6 := Lib.hid hb; have h96 := blk_grown H9.out hg (Kd.R_ne (Kd.S_R HSO.out) H9.out (by decide)); have H96 := Lib.hid h96; have HD6 := Lib.hid (Kd.R_over HD.out (Kd.S_R HSO.out) (by decide) hg); clear ho hb hg hat h96)
                  go_roundg k1
                  case measure => have := HOL.out; omega
                  case rel =>
                    have ho6 := HO6.out
                    rw [show (out ++ [part]).length = out.length + 1 by simp] at ho6
                    exact ⟨dn, out ++ [part], left - (part.length : Int), rfl, HN2, Lib.hid (by have := HK.out; omega), Lib.hid (by have := HLF.out; omega), Lib.hid (by have := HOL.out; simp; omega), HB6, H96, HD6, Lib.hid ho6⟩
end Go.Proofs.Ytngmdccheaidkaa.Pr
