/- Contracts of slices.Clone, slices.Sort and slices.Compact at the element types of this seat, in the form that the printed callers ask. -/
import Derived.Test.YtmacollhnnachaaF
import Derived.Sort.OwnSorted
import Derived.Sort.OwnSortedInts
import Derived.Lib.OwnBridge
import Derived.Shelf.SlicesE.Clone
import Derived.Lib.Hide
import Derived.Test.YtmacollhnnachaaGLibS
namespace Go.Proofs.Ytmacollhnnachaa.Pr
open Go.RowKit Go.Proofs.YtmacollhnnachaaW.PrintWords Go.Proofs.YtmacollhnnachaaW.PrintLast Go.Proofs.YtmacollhnnachaaW.PrintMore
open Go.Lib Go.Sort

theorem gInfo3 : (Try.prog.info? 3).map (fun i => (i.zero, i.size, i.bytes)) = some (some (.int .i64 0), 1, 8) := by kernel_rfl
theorem gInfo9 : (Try.prog.info? 9).map (fun i => (i.zero, i.size, i.bytes)) = some (some (.string ⟨#[]⟩), 1, 16) := by kernel_rfl
theorem gInfo35 : (Try.prog.info? 35).map (fun i => (i.zero, i.size, i.bytes)) = some (some (.agg #[.string ⟨#[]⟩, .int .i64 0, .int .i64 0, .bool false]), 4, 40) := by kernel_rfl
theorem C_news {α : Type} {d : Kd α} {w : World} {ad : Addr} {n : Nat} {xs : List α} (h : Kd.C d w (some ad) n xs) :
    ∃ news : List Value, news.length = n * d.sz ∧ (∀ j u, news[j]? = some u → w.cell? (ad.add j) = some u) ∧ (∀ u ∈ news, u.oneCell' = true) ∧ Reps (d.K w) d.sz xs news := by
  obtain ⟨hl, _, hc⟩ := h
  have key : ∀ m, m ≤ n → ∃ news : List Value, news.length = m * d.sz ∧ (∀ j u, news[j]? = some u → w.cell? (ad.add j) = some u) ∧ (∀ u ∈ news, u.oneCell' = true) ∧ Reps (d.K w) d.sz (xs.take m) news := by
    intro m
    induction m with
    | zero => intro _; exact ⟨[], by simp, by simp, by simp, by simpa using Reps.none _ _⟩
    | succ m ih =>
      intro hmn
      obtain ⟨news, h1, h2, h3, h4⟩ := ih (by omega)
      obtain ⟨ad', e, hcell⟩ := hc (by omega)
      cases e
      have hlt : m < xs.length := by omega
      obtain ⟨c, hs, hk, hu⟩ := hcell m xs[m] (List.getElem?_eq_getElem hlt)
      refine ⟨news ++ c, by rw [List.length_append, h1, hs, Nat.succ_mul], ?_, ?_, ?_⟩
      · intro j u hj
        rcases Nat.lt_or_ge j news.length with k | k
        · rw [List.getElem?_append_left k] at hj
          exact h2 j u hj
        · rw [List.getElem?_append_right k] at hj
          have := hu _ u hj
          rw [h1] at this k
          rwa [show m * d.sz + (j - m * d.sz) = j by omega] at this
      · intro u hu'
        rcases List.mem_append.1 hu' with h | h
        · exact h3 u h
        · exact d.K_one hk u h
      · rw [List.take_succ_eq_append_getElem hlt]
        exact h4.snoc hk hs
  have := key n (Nat.le_refl _)
  rwa [List.take_of_length_le (by omega)] at this
theorem R_of_news {α : Type} {d : Kd α} {w w' : World} {base e : Nat} {ok : Nat → Prop} {v : Value} {xs : List α} {news : List Value} (hflat : ∀ x cs, d.K w x cs → ∀ ok', d.M w' base ok' x cs)
    (ho : w'.ownsRow base e d.sz v xs.length news) (hr : Reps (d.K w) d.sz xs news) (hok : ∀ k, v.ownBlock = some k → ok k) : d.R e w' base ok v xs :=
  ⟨hok, news, ho, hr.imp_ (fun x cs h => hflat x cs h _)⟩
theorem C_none {α : Type} {d : Kd α} {w : World} {n : Nat} {xs : List α} (h : Kd.C d w none n xs) : xs = [] := by
  cases xs with
  | nil => rfl
  | cons a l =>
    obtain ⟨ad, e, _⟩ := h.2.2 (by rw [← h.1]; simp)
    cases e

/-- slices.Clone at element type 9. -/
def slices_Clone_string_string.f (l : List ByteArray) : Option (List ByteArray) := if l.length * 16 ≤ 140737488355328 then some l else none
set_option maxHeartbeats 2000000 in
set_option maxRecDepth 100000 in
theorem slices_Clone_string_string.calls (A0 : Option Addr) (c0 : Nat) (l0 : List ByteArray) (r : List ByteArray) (w : World) (hr0 : Kd.C Kd.string w A0 l0.length l0) (_hc0 : l0.length ≤ c0) (h : slices_Clone_string_string.f l0 = some r) :
    Calls Try.prog 81 #[.slice A0 l0.length c0] w fun e w' => ∃ v0_ : Value, e = .returned v0_ ∧ Kd.R Kd.string 9 w' w.heap.size (fun _ => True) v0_ r ∧ Below w.heap.size w w' := by
  obtain ⟨hlim, rfl⟩ : l0.length * 16 ≤ 140737488355328 ∧ l0 = r := by
    unfold slices_Clone_string_string.f at h
    split at h
    · exact ⟨by assumption, Option.some.inj h⟩
    · cases h
  clear h
  have q22 : ∀ (w : World) (a : Option Addr) (n c n' c' : Nat), (binOp .eql 45 (.slice a n c) (.slice none n' c')).run Try.prog w = .ok (.bool a.isNone) w := fun w a n c n' c' => Lib.run_eql_slice_nil w _ _ a n c n' c' Try.underlying45
  have u22 : ∀ w, Sem.run Try.prog (underlying 45) w = .ok (TypeDesc.slice 9) w := run_underlying Try.underlying45
  cases A0 with
  | none =>
    obtain rfl := C_none hr0
    clear hr0
    go_enter Try.func81, Try.ntmps81
    go_wp2
    go_ret
    exact ⟨_, rfl, Kd.R_nil _ _ _ _ _, Below.refl _ _⟩
  | some ad =>
    obtain ⟨news, h1, h2, h3, h4⟩ := C_news hr0
    have A := Lib.hid h2
    have hm : l0.length ≤ maxLen := by unfold maxLen; omega
    obtain ⟨i0, hi, hz0, hz1, hz2⟩ := info_parts gInfo9
    have H1 := Lib.hid h1
    have H4 := Lib.hid h4
    have H3 := Lib.hid h3
    clear h1 h2 h3 h4 hr0
    go_enter Try.func81, Try.ntmps81
    go_wp2_with (at_builtin; refine wpList_append_own _ rfl _ _ 45 rfl w.heap.size 9 i0 (.string { data := #[] }) 1 16 Try.underlying45 hi hz0 hz1 hz2 rfl (by decide) _ _ _ rfl (World.ownsRow_made w #[] 0 (Nat.le_refl _) (Nat.zero_le _) (by simp)) ad l0.length c0 news rfl ?qc1 ?qc2 ?qc3 ?qc4 ?qc5 ?qc6 ?_)
    case qc1 => exact H1.out
    case qc2 =>
      intro j u hj
      exact Lib.cell?_alloc_some _ (A.out j u hj)
    case qc3 => exact H3.out
    case qc4 => rw [Nat.zero_add]; exact hm
    case qc5 => rw [Nat.zero_add]; exact hlim
    case qc6 => simp
    intro v' w1 hown hgrow hnil
    go_wp2
    go_ret
    refine ⟨v', rfl, R_of_news (fun x cs h ok' => h) (show w1.ownsRow w.heap.size 9 1 v' l0.length news from by simpa using hown) H4.out (fun _ _ => trivial), ?_⟩
    exact ((Below.refl _ w).alloc (Nat.le_refl _) _).grown hgrow (by simp) (by intro k hk; simp [Value.ownBlock] at hk; omega)

/-- slices.Clone at element type 3. -/
def slices_Clone_int_int.f (l : List Int) : Option (List Int) := if l.length * 8 ≤ 140737488355328 then some l else none
set_option maxHeartbeats 2000000 in
set_option maxRecDepth 100000 in
theorem slices_Clone_int_int.calls (A0 : Option Addr) (c0 : Nat) (l0 : List Int) (r : List Int) (w : World) (hr0 : Kd.C (Kd.int .i64) w A0 l0.length l0) (_hc0 : l0.length ≤ c0) (h : slices_Clone_int_int.f l0 = some r) :
    Calls Try.prog 55 #[.slice A0 l0.length c0] w fun e w' => ∃ v0_ : Value, e = .returned v0_ ∧ Kd.R (Kd.int .i64) 3 w' w.heap.size (fun _ => True) v0_ r ∧ Below w.heap.size w w' := by
  obtain ⟨hlim, rfl⟩ : l0.length * 8 ≤ 140737488355328 ∧ l0 = r := by
    unfold slices_Clone_int_int.f at h
    split at h
    · exact ⟨by assumption, Option.some.inj h⟩
    · cases h
  clear h
  have q22 : ∀ (w : World) (a : Option Addr) (n c n' c' : Nat), (binOp .eql 39 (.slice a n c) (.slice none n' c')).run Try.prog w = .ok (.bool a.isNone) w := fun w a n c n' c' => Lib.run_eql_slice_nil w _ _ a n c n' c' Try.underlying39
  have u22 : ∀ w, Sem.run Try.prog (underlying 39) w = .ok (TypeDesc.slice 3) w := run_underlying Try.underlying39
  cases A0 with
  | none =>
    obtain rfl := C_none hr0
    clear hr0
    go_enter Try.func55, Try.ntmps55
    go_wp2
    go_ret
    exact ⟨_, rfl, Kd.R_nil _ _ _ _ _, Below.refl _ _⟩
  | some ad =>
    obtain ⟨news, h1, h2, h3, h4⟩ := C_news hr0
    have A := Lib.hid h2
    have hm : l0.length ≤ maxLen := by unfold maxLen; omega
    obtain ⟨i0, hi, hz0, hz1, hz2⟩ := info_parts gInfo3
    have H1 := Lib.hid h1
    have H4 := Lib.hid h4
    have H3 := Lib.hid h3
    clear h1 h2 h3 h4 hr0
    go_enter Try.func55, Try.ntmps55
    go_wp2_with (at_builtin; refine wpList_append_own _ rfl _ _ 39 rfl w.heap.size 3 i0 (.int .i64 0) 1 8 Try.underlying39 hi hz0 hz1 hz2 rfl (by decide) _ _ _ rfl (World.ownsRow_made w #[] 0 (Nat.le_refl _) (Nat.zero_le _) (by simp)) ad l0.length c0 news rfl ?qc1 ?qc2 ?qc3 ?qc4 ?qc5 ?qc6 ?_)
    case qc1 => exact H1.out
    case qc2 =>
      intro j u hj
      exact Lib.cell?_alloc_some _ (A.out j u hj)
    case qc3 => exact H3.out
    case qc4 => rw [Nat.zero_add]; exact hm
    case qc5 => rw [Nat.zero_add]; exact hlim
    case qc6 => simp
    intro v' w1 hown hgrow hnil
    go_wp2
    go_ret
    refine ⟨v', rfl, R_of_news (fun x cs h ok' => h) (show w1.ownsRow w.heap.size 3 1 v' l0.length news from by simpa using hown) H4.out (fun _ _ => trivial), ?_⟩
    exact ((Below.refl _ w).alloc (Nat.le_refl _) _).grown hgrow (by simp) (by intro k hk; simp [Value.ownBlock] at hk; omega)

/-- slices.Clone at element type 35. -/
def slices_Clone_lambrequin_interp_Var.f (l : List S35) : Option (List S35) := if l.length * 40 ≤ 140737488355328 then some l else none
set_option maxHeartbeats 2000000 in
set_option maxRecDepth 100000 in
theorem slices_Clone_lambrequin_interp_Var.calls (A0 : Option Addr) (c0 : Nat) (l0 : List S35) (r : List S35) (w : World) (hr0 : Kd.C k35 w A0 l0.length l0) (_hc0 : l0.length ≤ c0) (h : slices_Clone_lambrequin_interp_Var.f l0 = some r) :
    Calls Try.prog 38 #[.slice A0 l0.length c0] w fun e w' => ∃ v0_ : Value, e = .returned v0_ ∧ Kd.R k35 35 w' w.heap.size (fun _ => True) v0_ r ∧ Below w.heap.size w w' := by
  obtain ⟨hlim, rfl⟩ : l0.length * 40 ≤ 140737488355328 ∧ l0 = r := by
    unfold slices_Clone_lambrequin_interp_Var.f at h
    split at h
    · exact ⟨by assumption, Option.some.inj h⟩
    · cases h
  clear h
  have q22 : ∀ (w : World) (a : Option Addr) (n c n' c' : Nat), (binOp .eql 31 (.slice a n c) (.slice none n' c')).run Try.prog w = .ok (.bool a.isNone) w := fun w a n c n' c' => Lib.run_eql_slice_nil w _ _ a n c n' c' Try.underlying31
  have u22 : ∀ w, Sem.run Try.prog (underlying 31) w = .ok (TypeDesc.slice 35) w := run_underlying Try.underlying31
  cases A0 with
  | none =>
    obtain rfl := C_none hr0
    clear hr0
    go_enter Try.func38, Try.ntmps38
    go_wp2
    go_ret
    exact ⟨_, rfl, Kd.R_nil _ _ _ _ _, Below.refl _ _⟩
  | some ad =>
    obtain ⟨news, h1, h2, h3, h4⟩ := C_news hr0
    have A := Lib.hid h2
    have hm : l0.length ≤ maxLen := by unfold maxLen; omega
    obtain ⟨i0, hi, hz0, hz1, hz2⟩ := info_parts gInfo35
    have H1 := Lib.hid h1
    have H4 := Lib.hid h4
    have H3 := Lib.hid h3
    clear h1 h2 h3 h4 hr0
    go_enter Try.func38, Try.ntmps38
    go_wp2_with (at_builtin; refine wpList_append_own _ rfl _ _ 31 rfl w.heap.size 35 i0 (.agg #[.string { data := #[] }, .int .i64 0, .int .i64 0, .bool false]) 4 40 Try.underlying31 hi hz0 hz1 hz2 rfl (by decide) _ _ _ rfl (World.ownsRow_made w #[] 0 (Nat.le_refl _) (Nat.zero_le _) (by simp)) ad l0.length c0 news rfl ?qc1 ?qc2 ?qc3 ?qc4 ?qc5 ?qc6 ?_)
    case qc1 => exact H1.out
    case qc2 =>
      intro j u hj
      exact Lib.cell?_alloc_some _ (A.out j u hj)
    case qc3 => exact H3.out
    case qc4 => rw [Nat.zero_add]; exact hm
    case qc5 => rw [Nat.zero_add]; exact hlim
    case qc6 => simp
    intro v' w1 hown hgrow hnil
    go_wp2
    go_ret
    refine ⟨v', rfl, R_of_news (fun x cs h ok' => by rw [k35_open h]; exact k35_mkM _ _ _ _) (show w1.ownsRow w.heap.size 35 4 v' l0.length news from by simpa using hown) H4.out (fun _ _ => trivial), ?_⟩
    exact ((Below.refl _ w).alloc (Nat.le_refl _) _).grown hgrow (by simp) (by intro k hk; simp [Value.ownBlock] at hk; omega)
end Go.Proofs.Ytmacollhnnachaa.Pr
