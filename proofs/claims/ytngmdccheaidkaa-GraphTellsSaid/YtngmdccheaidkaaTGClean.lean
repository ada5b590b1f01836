/- Texts of the seat, without what this claim does not use. -/
import Derived.Test.YtngmdccheaidkaaTGLibP
import Derived.Laws.EntriesVeiled
/- graph.Clean, as a contract. -/
namespace Go.Proofs.Ytngmdccheaidkaa.Pr
open Go.RowKit Go.Proofs.YtngmdccheaidkaaW.PrintWords Go.Proofs.YtngmdccheaidkaaW.PrintLast Go.Proofs.YtngmdccheaidkaaW.PrintMore
open Go.Lib Go.Sort
set_option linter.unusedVariables false
theorem gInfo27 : (Try.prog.info? 27).map (fun i => (i.zero, i.size, i.bytes)) = some (some (.agg #[.int .i64 0, .int .i64 0]), 2, 16) := by kernel_rfl
theorem C_news {α : Type} {d : Kd α} {w : World} {ad : Addr} {n : Nat} {xs : List α} (h : Kd.C d w (some ad) n xs) :
    ∃ news : List Value, news.length = n * d.sz ∧ (∀ j u, news[j]? = some u → w.cell? (ad.add j) = some u) ∧ (∀ u ∈ news, u.oneCell' = true) ∧ Reps (d.K w) d.sz xs news := by
  obtain ⟨hl, _, hc⟩ := h
  have key : ∀ m, m ≤ n → ∃ news : List Value, news.length = m * d.sz ∧ (∀ j u, news[j]? = some u → w.cell? (ad.add j) = some u) ∧ (∀ u ∈ news, u.oneCell' = true) ∧ Reps (d.K w) d.sz (xs.take m) news := by
    intro m
    induction m with
    | zero => intro _; exact ⟨[], by simp, by simp, by simp, by simpa using Reps.none _ _⟩
    | succ m ih =>
      intro hmn
      obtain ⟨news, h1, h2, h3, h4⟩ := ih (by omega)
      obtain ⟨ad', e, hcell⟩ := hc (by omega)
      cases e
      have hlt : m < xs.length := by omega
      obtain ⟨c, hs, hk, hu⟩ := hcell m xs[m] (List.getElem?_eq_getElem hlt)
      refine ⟨news ++ c, by rw [List.length_append, h1, hs, Nat.succ_mul], ?_, ?_, ?_⟩
      · intro j u hj
        rcases Nat.lt_or_ge j news.length with k | k
        · rw [List.getElem?_append_left k] at hj
          exact h2 j u hj
        · rw [List.getElem?_append_right k] at hj
          have := hu _ u hj
          rw [h1] at this k
          rwa [show m * d.sz + (j - m * d.sz) = j by omega] at this
      · intro u hu'
        rcases List.mem_append.1 hu' with h | h
        · exact h3 u h
        · exact d.K_one hk u h
      · rw [List.take_succ_eq_append_getElem hlt]
        exact h4.snoc hk hs
  have := key n (Nat.le_refl _)
  rwa [List.take_of_length_le (by omega)] at this
theorem R_of_news {α : Type} {d : Kd α} {w w' : World} {base e : Nat} {ok : Nat → Prop} {v : Value} {xs : List α} {news : List Value} (hflat : ∀ x cs, d.K w x cs → ∀ ok', d.M w' base ok' x cs)
    (ho : w'.ownsRow base e d.sz v xs.length news) (hr : Reps (d.K w) d.sz xs news) (hok : ∀ k, v.ownBlock = some k → ok k) : d.R e w' base ok v xs :=
  ⟨hok, news, ho, hr.imp_ (fun x cs h => hflat x cs h _)⟩
theorem C_none {α : Type} {d : Kd α} {w : World} {n : Nat} {xs : List α} (h : Kd.C d w none n xs) : xs = [] := by
  cases xs with
  | nil => rfl
  | cons a l =>
    obtain ⟨ad, e, _⟩ := h.2.2 (by rw [← h.1]; simp)
    cases e
set_option maxHeartbeats 2000000 in
set_option maxRecDepth 100000 in
theorem clone_calls (A0 : Option Addr) (c0 : Nat) (l0 : List S27) (w : World) (hr0 : Kd.C k27 w A0 l0.length l0) (hlim : l0.length * 16 ≤ 140737488355328) :
    Calls Try.prog 39 #[.slice A0 l0.length c0] w fun e w' => ∃ v0_ : Value, e = .returned v0_ ∧ Kd.R k27 27 w' w.heap.size (fun _ => True) v0_ l0 ∧ Below w.heap.size w w' := by
  have q22 : ∀ (w : World) (a : Option Addr) (n c n' c' : Nat), (binOp .eql 24 (.slice a n c) (.slice none n' c')).run Try.prog w = .ok (.bool a.isNone) w := fun w a n c n' c' => Lib.run_eql_slice_nil w _ _ a n c n' c' Try.underlying24
  have u22 : ∀ w, Sem.run Try.prog (underlying 24) w = .ok (TypeDesc.slice 27) w := run_underlying Try.underlying24
  cases A0 with
  | none =>
    obtain rfl := C_none hr0
    clear hr0
    go_enter Try.func39, Try.ntmps39
    go_wp2
    go_ret
    exact ⟨_, rfl, Kd.R_nil _ _ _ _ _, Below.refl _ _⟩
  | some ad =>
    obtain ⟨news, h1, h2, h3, h4⟩ := C_news hr0
    have A := Lib.hid h2
    have hm : l0.length ≤ maxLen := by unfold maxLen; omega
    obtain ⟨i0, hi, hz0, hz1, hz2⟩ := info_parts gInfo27
    have H1 := Lib.hid h1
    have H4 := Lib.hid h4
    have H3 := Lib.hid h3
    clear h1 h2 h3 h4 hr0
    go_enter Try.func39, Try.ntmps39
    go_wp2_with (at_builtin; refine wpList_append_own _ rfl _ _ 24 rfl w.heap.size 27 i0 (.agg #[.int .i64 0, .int .i64 0]) 2 16 Try.underlying24 hi hz0 hz1 hz2 rfl (by decide) _ _ _ rfl (World.ownsRow_made w #[] 0 (Nat.le_refl _) (Nat.zero_le _) (by simp)) ad l0.length c0 news rfl ?qc1 ?qc2 ?qc3 ?qc4 ?qc5 ?qc6 ?_)
    case qc1 => exact H1.out
    case qc2 =>
      intro j u hj
      exact Lib.cell?_alloc_some _ (A.out j u hj)
    case qc3 => exact H3.out
    case qc4 => rw [Nat.zero_add]; exact hm
    case qc5 => rw [Nat.zero_add]; exact hlim
    case qc6 => simp
    intro v' w1 hown hgrow hnil
    go_wp2
    go_ret
    refine ⟨v', rfl, R_of_news (fun x cs h ok' => by rw [k27_open h]; exact k27_mkM _ _ _ _) (show w1.ownsRow w.heap.size 27 2 v' l0.length news from by simpa using hown) H4.out (fun _ _ => trivial), ?_⟩
    exact ((Below.refl _ w).alloc (Nat.le_refl _) _).grown hgrow (by simp) (by intro k hk; simp [Value.ownBlock] at hk; omega)

/-! ### the closures -/
def withinP (n x : Int) : Bool := decide (0 ≤ x) && decide (x < n)
def outP (n : Int) (e : Pair) : Bool := !(withinP n e.1) || !(withinP n e.2)
theorem closure36 (B : Nat) (n x : Int) (W : World) (hc : W.cell? ⟨B, 0, none⟩ = some (.int .i64 n)) :
    Calls Try.prog 36 #[.int .i64 x, .pointer (some ⟨B, 0, none⟩)] W fun e w' => e = .returned (.bool (withinP n x)) ∧ W = w' := by
  unfold withinP
  by_cases h : 0 ≤ x
  · go_enter Try.func36, Try.ntmps36
    go_wp2
    go_ret
    exact ⟨by simp [h], rfl⟩
  · go_enter Try.func36, Try.ntmps36
    go_wp2
    go_ret
    exact ⟨by simp; omega, rfl⟩
set_option maxHeartbeats 400000 in
set_option maxRecDepth 100000 in
theorem closure38 (B C : Nat) (n : Int) (w : World) (hB : B < w.heap.size) (hC : C < w.heap.size) (hcB : w.cell? ⟨B, 0, none⟩ = some (.int .i64 n)) (hcC : w.cell? ⟨C, 0, none⟩ = some (.func (.func 36) #[] #[.pointer (some ⟨B, 0, none⟩)])) :
    PredBelow Try.prog 38 #[.pointer (some ⟨C, 0, none⟩)] (fun x => .agg (encP x).toArray) (outP n) w := by
  intro W x hb
  have hB' : W.cell? ⟨B, 0, none⟩ = some (.int .i64 n) := (hb.cell (p := ⟨B, 0, none⟩) hB).trans hcB
  have hC' : W.cell? ⟨C, 0, none⟩ = some (.func (.func 36) #[] #[.pointer (some ⟨B, 0, none⟩)]) := (hb.cell (p := ⟨C, 0, none⟩) hC).trans hcC
  have hCW : C < W.heap.size := Nat.lt_of_lt_of_le hC hb.size
  have hBW : B < W.heap.size := Nat.lt_of_lt_of_le hB hb.size
  have hne : C ≠ W.heap.size := by omega
  have hneB : B ≠ W.heap.size := by omega
  have hu27 := Try.underlying27
  show Calls Try.prog 38 #[.agg #[.int .i64 x.1, .int .i64 x.2], .pointer (some ⟨C, 0, none⟩)] W _
  unfold outP
  have C1 := Lib.hid (show ∀ V, V.cell? ⟨B, 0, none⟩ = some (.int .i64 n) → Calls Try.prog 36 #[.int .i64 x.1, .pointer (some ⟨B, 0, none⟩)] V fun e w' => e = .returned (.bool (withinP n x.1)) ∧ V = w' from fun V h => closure36 B n x.1 V h)
  have C2 := Lib.hid (show ∀ V, V.cell? ⟨B, 0, none⟩ = some (.int .i64 n) → Calls Try.prog 36 #[.int .i64 x.2, .pointer (some ⟨B, 0, none⟩)] V fun e w' => e = .returned (.bool (withinP n x.2)) ∧ V = w' from fun V h => closure36 B n x.2 V h)
  have hA : (W.alloc (.cells #[.int .i64 x.1, .int .i64 x.2] 27 (0, 0))).cell? ⟨B, 0, none⟩ = some (.int .i64 n) := Lib.cell?_alloc_some _ hB'
  have HA := Lib.hid hA
  have HBL := Lib.hid (hb.alloc hb.size (.cells #[.int .i64 x.1, .int .i64 x.2] 27 (0, 0)))
  clear hA hb hcB hcC
  generalize hp : withinP n x.1 = p at *
  generalize hq : withinP n x.2 = q at *
  clear hp hq
  cases p
  · go_enter Try.func38, Try.ntmps38
    go_wp2_with (go_at_call 36; refine (C1.out _ HA.out).mono ?_; rintro e w' ⟨rfl, rfl⟩)
    go_ret
    exact ⟨rfl, HBL.out⟩
  · go_enter Try.func38, Try.ntmps38
    go_wp2_with fail
    refine (C1.out _ HA.out).mono ?_
    rintro e w' ⟨rfl, rfl⟩
    go_wp2_with fail
    refine (C2.out _ HA.out).mono ?_
    rintro e w' ⟨rfl, rfl⟩
    go_wp2
    go_ret
    exact ⟨rfl, HBL.out⟩
theorem containsEmpty (A : Option Addr) (c : Nat) (fv : Value) (w : World) :
    Calls Try.prog 37 #[.slice A 0 c, fv] w fun e w' => e = .returned (.bool false) ∧ w = w' := by
  have h : ∀ V, Calls Try.prog 58 #[.slice A 0 c, fv] V fun e w' => e = .returned (.int .i64 (-1)) ∧ V = w' := fun V => by
    go_enter Try.func58, Try.ntmps58
    go_wp2
    refine wp_loop_rounds 1 ?_
    rw [rounds_succ]; go_wp2
    go_ret
    exact ⟨rfl, rfl⟩
  have H := Lib.hid h
  clear h
  go_enter Try.func37, Try.ntmps37
  go_wp2_with (go_at_call 58; refine (H.out _).mono ?_; rintro e w' ⟨rfl, rfl⟩)
  go_ret
  exact ⟨rfl, rfl⟩
theorem cell_addr {w : World} {a : Addr} {u : Value} (h : w.cell? a = some u) : a = ⟨a.block, a.off, none⟩ := by
  obtain ⟨b, o, m⟩ := a
  cases m with
  | none => rfl
  | some x =>
    simp [World.cell?] at h
    split at h <;> cases h
theorem contains_calls (B C : Nat) (n : Int) (A0 : Option Addr) (c0 : Nat) (l0 : List S27) (w : World) (hr0 : Kd.C k27 w A0 l0.length l0) (hB : B < w.heap.size) (hC : C < w.heap.size) (hcB : w.cell? ⟨B, 0, none⟩ = some (.int .i64 n)) (hcC : w.cell? ⟨C, 0, none⟩ = some (.func (.func 36) #[] #[.pointer (some ⟨B, 0, none⟩)])) :
    Calls Try.prog 37 #[.slice A0 l0.length c0, .func (.func 38) #[] #[.pointer (some ⟨C, 0, none⟩)]] w fun e w' => e = .returned (.bool ((l0.map toP).any (outP n))) ∧ Below w.heap.size w w' := by
  by_cases hl : l0 = []
  · subst hl
    refine (containsEmpty A0 c0 _ w).mono ?_
    rintro e w' ⟨rfl, rfl⟩
    exact ⟨rfl, Below.refl _ _⟩
  · have hp : 0 < l0.length := List.length_pos_iff.2 hl
    obtain ⟨ad, rfl, hcell⟩ := hr0.2.2 hp
    have hmax := hr0.2.1
    have hz : ∀ j p, l0[j]? = some p → w.cell? (ad.add (j * 2)) = some (.int .i64 p.f0) ∧ w.cell? (ad.add (j * 2 + 1)) = some (.int .i64 p.f1) := fun j p hj => by
      obtain ⟨c, hs, hK, hu⟩ := hcell j p hj
      obtain rfl := k27_open hK
      exact ⟨hu 0 _ rfl, hu 1 _ rfl⟩
    have h00 := (hz 0 _ (List.getElem?_eq_getElem hp)).1
    have ead : ad = ⟨ad.block, ad.off, none⟩ := by
      have := cell_addr h00
      obtain ⟨b, o, m⟩ := ad
      cases m with
      | none => rfl
      | some x => simp [Addr.add] at this
    have hlt : ad.block < w.heap.size := by
      have := World.block_lt_of_cell? w _ h00
      simpa [add_block] using this
    have h := Try.slices_ContainsFunc (α := Pair) 2 isAgg27 sizeOf27 encP encP_len (outP n) 38 #[.pointer (some ⟨C, 0, none⟩)] (fun args w => by rfl) ad.block ad.off l0.length c0 (l0.map toP) w (closure38 B C n w hB hC hcB hcC) (by simp) hmax hlt
      (fun j hj i v hv => by
        have hj' : j < l0.length := by simpa using hj
        have e : (l0.map toP)[j]! = toP l0[j] := by rw [getElem!_pos _ _ (by simpa using hj')]; simp
        rw [e] at hv
        obtain ⟨z0, z1⟩ := hz j _ (List.getElem?_eq_getElem hj')
        rw [ead] at z0 z1
        rw [add_at] at z0 z1
        rcases (show i = 0 ∨ i = 1 ∨ 2 ≤ i by omega) with rfl | rfl | hi
        · simp only [encP, toP, List.getElem?_cons_zero, Option.some.injEq] at hv
          subst hv; rw [Nat.add_zero]; exact z0
        · simp only [encP, toP, List.getElem?_cons_succ, List.getElem?_cons_zero, Option.some.injEq] at hv
          subst hv; rw [Nat.add_assoc]; exact z1
        · rw [List.getElem?_eq_none (by simpa [encP] using hi)] at hv; cases hv)
    rw [← ead, List.take_of_length_le (by simp)] at h
    exact h

/-! ### Clean -/
def cleanP (l : List S27) : List S27 := (Lib.compact (sortP (l.map toP))).map ofP
def graph_Clean.f (n : Int) (l : List S27) : Option (List S27 × Int) :=
  if l.length ≤ 8796093022208 then some (if n < 0 ∨ 1000 < n ∨ (l.map toP).any (outP n) = true then ([], 1) else (cleanP l, 0)) else none
set_option maxHeartbeats 2000000 in
set_option maxRecDepth 100000 in
theorem graph_Clean.calls (a0 : Int) (A1 : Option Addr) (c1 : Nat) (l1 : List (S27)) (r1 : List (S27)) (r2 : Int) (w : World) (hr1 : Kd.C k27 w A1 l1.length l1) (hc1 : l1.length ≤ c1) (h : graph_Clean.f a0 l1 = some (r1, r2)) :
  Calls Try.prog 16 #[.int .i64 a0, .slice A1 l1.length c1] w fun e w' => ∃ v0_ : Value, e = .returned (.tuple #[v0_, .int .i64 r2]) ∧ Kd.R k27 27 w' w.heap.size (fun _ => True) v0_ r1 ∧ Below w.heap.size w w' := by
  unfold graph_Clean.f at h
  by_cases hlim : l1.length ≤ 8796093022208
  case neg => rw [if_neg hlim] at h; cases h
  rw [if_pos hlim] at h
  have h := Option.some.inj h
  have H := Lib.hid h
  have HR := Lib.hid hr1
  clear h hr1 hc1
  have HBW := Lib.hid (below_alloc (below_alloc (Below.refl w.heap.size w) (.cells #[.int .i64 a0] 3 (0, 0))) (.cells #[.func (.func 36) #[] #[.pointer (some ⟨w.heap.size, 0, none⟩)]] 76 (0, 0)))
  by_cases hn0 : a0 < 0
  · obtain ⟨rfl, rfl⟩ : r1 = [] ∧ r2 = 1 := by have h := H.out; rw [if_pos (.inl hn0)] at h; cases h; exact ⟨rfl, rfl⟩
    go_enter Try.func16, Try.ntmps16
    go_wp2
    go_ret2
    exact ⟨_, rfl, Kd.R_nil _ _ _ _ _, HBW.out⟩
  · by_cases hn1 : 1000 < a0
    · obtain ⟨rfl, rfl⟩ : r1 = [] ∧ r2 = 1 := by have h := H.out; rw [if_pos (.inr (.inl hn1))] at h; cases h; exact ⟨rfl, rfl⟩
      go_enter Try.func16, Try.ntmps16
      go_wp2
      go_ret2
      exact ⟨_, rfl, Kd.R_nil _ _ _ _ _, HBW.out⟩
    · have CC := Lib.hid (show ∀ V, V = (w.alloc (.cells #[.int .i64 a0] 3 (0, 0))).alloc (.cells #[.func (.func 36) #[] #[.pointer (some ⟨w.heap.size, 0, none⟩)]] 76 (0, 0)) →
          Calls Try.prog 37 #[.slice A1 l1.length c1, .func (.func 38) #[] #[.pointer (some ⟨w.heap.size + 1, 0, none⟩)]] V fun e w' => e = .returned (.bool ((l1.map toP).any (outP a0))) ∧ Below w.heap.size w w' from fun V hV => by
        have hBV : Below w.heap.size w V := by rw [hV]; exact HBW.out
        have hq := blk_new1' w (.cells #[.int .i64 a0] 3 (0, 0)) (.cells #[.func (.func 36) #[] #[.pointer (some ⟨w.heap.size, 0, none⟩)]] 76 (0, 0))
        rw [← hV] at hq
        refine (contains_calls w.heap.size (w.heap.size + 1) a0 A1 c1 l1 V (Kd.C_below HR.out hBV) (blk_lt hq.1) (blk_lt hq.2) ((blk_cell hq.1 0).trans rfl) ((blk_cell hq.2 0).trans rfl)).mono ?_
        rintro e w' ⟨rfl, hb⟩
        exact ⟨rfl, below_then hBV hBV.size hb⟩)
      have CL := Lib.hid (show ∀ V, Below w.heap.size w V → Calls Try.prog 39 #[.slice A1 l1.length c1] V fun e w' => ∃ v0_ : Value, e = .returned v0_ ∧ Kd.R k27 27 w' w.heap.size (fun _ => True) v0_ l1 ∧ Below w.heap.size w w' from fun V hb => by
        refine (clone_calls A1 c1 l1 V (Kd.C_below HR.out hb) (by omega)).mono ?_
        rintro e w' ⟨v, rfl, hR, hb2⟩
        exact ⟨v, rfl, Kd.R_lower hR hb.size, below_then hb hb.size hb2⟩)
      have SF := Lib.hid (show ∀ V u, Below w.heap.size w V → Kd.R k27 27 V w.heap.size (fun _ => True) u l1 → Calls Try.prog 40 #[u, .func (.func 41) #[] #[]] V fun e w' => e = .returned (.tuple #[]) ∧ Kd.R k27 27 w' w.heap.size (fun _ => True) u ((sortP (l1.map toP)).map ofP) ∧ Below w.heap.size w w' from fun V u hb hR =>
        (sortFunc_calls (fun _ => True) u l1 w V hb hR (by omega)).mono fun e w' ⟨he, hR2, hb2, _⟩ => ⟨he, Kd.R_mono hR2 (fun _ _ => trivial), hb2⟩)
      have CP := Lib.hid (show ∀ V u, Below w.heap.size w V → Kd.R k27 27 V w.heap.size (fun _ => True) u ((sortP (l1.map toP)).map ofP) → Calls Try.prog 44 #[u] V fun e w' => ∃ v, e = .returned v ∧ Kd.R k27 27 w' w.heap.size (fun _ => True) v (cleanP l1) ∧ Below w.heap.size w w' from fun V u hb hR => by
        refine (compact_calls (fun _ => True) u _ w V hb hR (by simp [sortP]; omega)).mono ?_
        rintro e w' ⟨v, he, hR2, hb2⟩
        have hh : (((sortP (l1.map toP)).map ofP).map toP) = sortP (l1.map toP) := by simp [Function.comp_def, toP_ofP]
        rw [hh] at hR2
        exact ⟨v, he, Kd.R_mono hR2 (fun _ _ => trivial), hb2⟩)
      generalize hany : (l1.map toP).any (outP a0) = any at *
      clear hany
      cases any
      · obtain ⟨rfl, rfl⟩ : r1 = cleanP l1 ∧ r2 = 0 := by have h := H.out; rw [if_neg (by simp; omega)] at h; cases h; exact ⟨rfl, rfl⟩
        clear H
        go_enter Try.func16, Try.ntmps16
        go_wp2_with fail
        refine (CC.out _ rfl).mono ?_
        rintro e w3 ⟨rfl, hb3⟩
        have B3 := Lib.hid hb3
        clear hb3
        go_wp2_with fail
        refine (CL.out _ B3.out).mono ?_
        rintro e w4 ⟨u, rfl, hR4, hb4⟩
        have R4 := Lib.hid hR4
        have B4 := Lib.hid hb4
        clear hR4 hb4
        go_wp2_with fail
        refine (SF.out _ _ B4.out R4.out).mono ?_
        rintro e w5 ⟨rfl, hR5, hb5⟩
        have R5 := Lib.hid hR5
        have B5 := Lib.hid hb5
        clear hR5 hb5
        go_wp2_with fail
        refine (CP.out _ _ B5.out R5.out).mono ?_
        rintro e w6 ⟨v, rfl, hR6, hb6⟩
        have R6 := Lib.hid hR6
        have B6 := Lib.hid hb6
        clear hR6 hb6
        go_wp2
        go_ret2
        exact ⟨_, rfl, R6.out, B6.out⟩
      · obtain ⟨rfl, rfl⟩ : r1 = [] ∧ r2 = 1 := by have h := H.out; rw [if_pos (.inr (.inr rfl))] at h; cases h; exact ⟨rfl, rfl⟩
        clear H
        go_enter Try.func16, Try.ntmps16
        go_wp2_with fail
        refine (CC.out _ rfl).mono ?_
        rintro e w3 ⟨rfl, hb3⟩
        have B3 := Lib.hid hb3
        clear hb3
        go_wp2
        go_ret2
        exact ⟨_, rfl, Kd.R_nil _ _ _ _ _, B3.out⟩
end Go.Proofs.Ytngmdccheaidkaa.Pr
