/- Texts of the seat, without what this claim does not use. -/
import Derived.Test.YtngmdccheaidkaaTF
import Derived.Lib.Hide
import Derived.IntWalk
import Derived.Laws.EntriesVeiled
/- graph.reached, as a contract. -/
namespace Go.Proofs.Ytngmdccheaidkaa.Pr
open Go.RowKit Go.Proofs.YtngmdccheaidkaaW.PrintWords Go.Proofs.YtngmdccheaidkaaW.PrintLast Go.Proofs.YtngmdccheaidkaaW.PrintMore
open Go.Lib
set_option linter.unusedVariables false
theorem gInfoI : (Try.prog.info? 3).map (fun i => (i.zero, i.size, i.bytes)) = some (some (.int .i64 0), 1, 8) := by kernel_rfl
theorem gInfoB : (Try.prog.info? 4).map (fun i => (i.zero, i.size, i.bytes)) = some (some (.bool false), 1, 1) := by kernel_rfl
/-- A node is marked, if it isn't yet. -/
def markP (seen : List Bool) (todo : List Int) (x : Int) : Option (List Bool × List Int) :=
  if 0 ≤ x ∧ x < (seen.length : Int) then
    if rdOf false seen x = true then some (seen, todo) else if todo.length ≤ 1000000 then some (seen.set x.toNat true, todo ++ [x]) else none
  else none
/-- What the marks' variables hold. -/
def RI (w0 W : World) (g5 g6 : Nat) (vs : Value) (seen : List Bool) (vt : Value) (todo : List Int) : Prop :=
  Below w0.heap.size w0 W ∧ w0.heap.size ≤ g5 ∧ w0.heap.size ≤ g6 ∧ W.heap[g5]? = some (.cells #[vs] 40 (0, 0)) ∧ W.heap[g6]? = some (.cells #[vt] 35 (0, 0)) ∧
    Kd.R Kd.bool 4 W w0.heap.size (fun _ => True) vs seen ∧ Kd.R (Kd.int .i64) 3 W w0.heap.size (fun _ => True) vt todo
set_option maxHeartbeats 2000000 in
set_option maxRecDepth 100000 in
theorem mark_calls {w0 W : World} {g5 g6 : Nat} {vs vt : Value} {seen seen' : List Bool} {todo todo' : List Int} {x : Int} (h : RI w0 W g5 g6 vs seen vt todo) (hm : markP seen todo x = some (seen', todo')) :
    Calls Try.prog 62 #[.int .i64 x, .pointer (some ⟨g5, 0, none⟩), .pointer (some ⟨g6, 0, none⟩)] W fun e w' => e = .returned (.tuple #[]) ∧ ∃ vt', RI w0 w' g5 g6 vs seen' vt' todo' := by
  obtain ⟨hB, h5, h6, hb5, hb6, hs, ht⟩ := h
  unfold markP at hm
  by_cases hx : 0 ≤ x ∧ x < (seen.length : Int)
  case neg => rw [if_neg hx] at hm; cases hm
  rw [if_pos hx] at hm
  obtain ⟨hx0, hx1⟩ := hx
  have hp : 0 < seen.length := by omega
  obtain ⟨gs, cap, rfl, hgs, hgl, cells, hbs⟩ := Kd.R_form hs hp
  obtain ⟨hc, hf⟩ := Kd.R_cell false hs x hx0 hx1
  have n5 : gs ≠ g5 := fun e => (Kd.R_ne hs hb5 (by decide)) (by rw [e]; rfl)
  have n6 : gs ≠ g6 := fun e => (Kd.R_ne hs hb6 (by decide)) (by rw [e]; rfl)
  have c5 : W.cell? ⟨g5, 0, none⟩ = some (.slice (some ⟨gs, 0, none⟩) seen.length cap) := (blk_cell hb5 0).trans rfl
  have c6 : W.cell? ⟨g6, 0, none⟩ = some vt := (blk_cell hb6 0).trans rfl
  have f6 := blk_frozen hb6 0
  have HB5 := Lib.hid hb5
  have HB6 := Lib.hid hb6
  have HS := Lib.hid hs
  have HT := Lib.hid ht
  have HB := Lib.hid hB
  clear hb5 hb6 hs ht hB hbs cells
  by_cases hsn : rdOf false seen x = true
  · rw [if_pos hsn] at hm
    cases hm
    rw [hsn] at hc
    clear hsn
    go_enter Try.func62, Try.ntmps62
    go_wp2
    go_end0
    exact ⟨rfl, vt, HB.out, h5, h6, HB5.out, HB6.out, HS.out, HT.out⟩
  · rw [if_neg hsn] at hm
    by_cases hlim : todo.length ≤ 1000000
    case neg => rw [if_neg hlim] at hm; cases hm
    rw [if_pos hlim] at hm
    cases hm
    have hsf : rdOf false seen x = false := by simpa using hsn
    rw [hsf] at hc
    clear hsf hsn
    have HP := Lib.hid (Kd.R_put HS.out x true)
    generalize hW1 : W.setCell ⟨gs, x.toNat, none⟩ (.bool true) = W1 at HP
    have HT1 := Lib.hid (show Kd.R (Kd.int .i64) 3 W1 w0.heap.size (fun _ => True) vt todo from Kd.R_over HT.out HS.out (by decide) HP.out.2)
    have HB1 := Lib.hid (show Below w0.heap.size w0 W1 by rw [← hW1]; exact HB.out.setCell hgs _)
    have HB51 := Lib.hid (show W1.heap[g5]? = some (.cells #[.slice (some ⟨gs, 0, none⟩) seen.length cap] 40 (0, 0)) from blk_grown HB5.out HP.out.2 (fun e => by cases e; exact n5 rfl))
    have HB61 := Lib.hid (show W1.heap[g6]? = some (.cells #[vt] 35 (0, 0)) from blk_grown HB6.out HP.out.2 (fun e => by cases e; exact n6 rfl))
    have HW1 := Lib.hid hW1
    have hsz1 : W1.heap.size = W.heap.size := by rw [← hW1]; simp
    have HZ1 := Lib.hid hsz1
    clear hW1 hsz1
    go_enter Try.func62, Try.ntmps62
    go_wp2_with ((with_reducible refine gate_builtin (b := .append) (xs := #[.tmp 12, .tmp 14]) rfl ?_); at_builtin; rw [HW1.out]; refine Kd.R_append (Kd.int .i64) (w0 := w0) w0.heap.size rfl (.tmp 12) (.tmp 14) 35 3 (.int .i64 0) 8 rfl Try.underlying35 gInfoI rfl (by decide) (by omega) vt todo x [.int .i64 x] (fun _ => True) (fun _ => False) rfl ?aX ?aP (fun _ hk => hk.elim) ?aF ?aO ?aB ?aS ?aL ?_; (case aX => rw [HZ1.out]; rfl); (case aP => exact rfl); (case aB => exact HB1.out); (case aF => exact (fun k_ hk => trivial)); (case aO => exact HT1.out); (case aS => rw [HZ1.out]; omega); (case aL => omega); intro v1 w2 ho hb hg hat; obtain ⟨A3, c3, rfl⟩ := Kd.R_slice ho; have HO := Lib.hid ho; have HBn := Lib.hid hb; have HG := Lib.hid hg; clear ho hb hg hat; have hb62 := blk_grown HB61.out HG.out (Kd.R_ne HT1.out HB61.out (by decide)); have hv2 : w2.cell? ⟨g6, 0, none⟩ = some vt := (blk_cell hb62 0).trans rfl; have hf2 := blk_frozen hb62 0; have HB62 := Lib.hid hb62; clear hb62)
    go_end0
    have hb52 := blk_grown HB51.out HG.out (Kd.R_ne HT1.out HB51.out (by decide))
    have hs2 := Kd.R_over HP.out.1 HT1.out (by decide) HG.out
    have h56 : g5 ≠ g6 := fun e => by
      have h1 := HB5.out
      have h2 := HB6.out
      rw [e, h2] at h1
      simp at h1
    have ho := HO.out
    rw [show (todo ++ [x]).length = todo.length + 1 by simp] at ho
    exact ⟨rfl, .slice A3 (todo.length + 1) c3, HBn.out.setCell h6 _, h5, h6, blk_far hb52 h56 _, (blk_set HB62.out 0 _).trans rfl, Kd.R_set hs2 HB62.out (by decide) 0 _, Kd.R_set ho HB62.out (by decide) 0 _⟩
theorem addr_none {w : World} {a : Addr} {u : Value} (h : w.cell? a = some u) : a = ⟨a.block, a.off, none⟩ := by
  obtain ⟨b, o, m⟩ := a
  cases m with
  | none => rfl
  | some x =>
    simp [World.cell?] at h
    split at h <;> cases h
/-- The marks of a row. -/
def marksP : List Bool → List Int → List Int → Option (List Bool × List Int)
  | seen, todo, [] => some (seen, todo)
  | seen, todo, x :: l => (markP seen todo x).bind fun p => marksP p.1 p.2 l
def reachO : Nat → List (List Int) → List Bool → List Int → Option (List Bool)
  | 0, _, _, _ => none
  | k + 1, next, seen, todo =>
    match todo.getLast? with
    | none => some seen
    | some x => if 0 ≤ x ∧ x < (next.length : Int) then (marksP seen todo.dropLast (rd_L1 next x)).bind fun p => reachO k next p.1 p.2 else none
def graph_reached.f (next : List (List Int)) (a : Int) : Option (List Bool) :=
  if next.length ≤ 1000000 then (markP (List.replicate next.length false) [] a).bind fun p => reachO (next.length + 2) next p.1 p.2 else none
set_option maxHeartbeats 4000000 in
set_option maxRecDepth 100000 in
theorem graph_reached.calls (A0 : Option Addr) (c0 : Nat) (l0 : List (List Int)) (a1 : Int) (r : List Bool) (w : World) (hr0 : Kd.C (Kd.slice 3 (Kd.int .i64)) w A0 l0.length l0) (hc0 : l0.length ≤ c0) (h : graph_reached.f l0 a1 = some r) :
  Calls Try.prog 46 #[.slice A0 l0.length c0, .int .i64 a1] w fun e w' => ∃ v0_ : Value, e = .returned v0_ ∧ Kd.R Kd.bool 4 w' w.heap.size (fun _ => True) v0_ r ∧ Below w.heap.size w w' := by
  unfold graph_reached.f at h
  by_cases hlim : l0.length ≤ 1000000
  case neg => rw [if_neg hlim] at h; cases h
  rw [if_pos hlim] at h
  obtain ⟨⟨seen1, todo1⟩, hm1, h2⟩ := Option.bind_eq_some_iff.mp h
  clear h
  have h := h2
  clear h2
  have HR := Lib.hid hr0
  have HL := Lib.hid h
  have HM1 := Lib.hid hm1
  clear hr0 hc0 h hm1
  go_enter Try.func46, Try.ntmps46
  go_wp2_with (first | ((with_reducible refine gate_dst (N := 13) rfl ?_); refine Kd.R_make Kd.bool (w0 := w) w.heap.size 4 rfl (N := 13) rfl 40 _ _ rfl (l0.length : Int) rfl rfl Try.underlying40 (.bool false) 1 gInfoB rfl (by decide) (by omega) false (ok := fun _ => True) (okp := fun _ => True) rfl (fun _ hk => hk) trivial (by omega) (by simp; omega) (Below.refl _ _) (Nat.le_refl _) ?_; intro v1 w2 ho hb hg hnew; rw [Int.toNat_natCast] at ho; obtain ⟨A3, c3, rfl⟩ := Kd.R_slice ho; have HO := Lib.hid ho; have HB := Lib.hid hb; clear ho hb hg hnew) | fail)
  have hRI : ∀ V, V = (w2.alloc (.cells #[.slice A3 l0.length c3] 40 (0, 0))).alloc (.cells #[.slice none 0 0] 35 (0, 0)) → RI w V w2.heap.size (w2.heap.size + 1) (.slice A3 l0.length c3) (List.replicate l0.length false) (.slice none 0 0) [] := fun V hV => by
    have hq := And.intro (blk_alloc (blk_new w2 (.cells #[.slice A3 l0.length c3] 40 (0, 0))) (.cells #[.slice none 0 0] 35 (0, 0))) (blk_new (w2.alloc (.cells #[.slice A3 l0.length c3] 40 (0, 0))) (.cells #[.slice none 0 0] 35 (0, 0)))
    have ho := HO.out
    rw [List.length_replicate] at ho
    rw [hV]
    refine ⟨below_alloc (below_alloc HB.out _) _, HB.out.size, by have := HB.out.size; omega, hq.1, by simpa using hq.2, Kd.R_alloc (Kd.R_alloc ho _) _, Kd.R_nil _ _ _ _ _⟩
  have HRI := Lib.hid hRI
  clear hRI HO
  have HC := Lib.hid (show ∀ V, V = (w2.alloc (.cells #[.slice A3 l0.length c3] 40 (0, 0))).alloc (.cells #[.slice none 0 0] 35 (0, 0)) → _ from fun V hV => mark_calls (HRI.out V hV) HM1.out)
  refine (HC.out _ rfl).mono ?_
  rintro e w3 ⟨rfl, vt3, hI3⟩
  have I3 := Lib.hid hI3
  clear hI3 HC HRI HM1
  generalize w2.heap.size + 1 = g6 at *
  generalize w2.heap.size = g5 at *
  clear HB
  go_wp2
  go_loopg [] (l0.length + 2) (fun kq wq => ∃ (seen : List Bool) (todo : List Int) (vt : Value), Hid (reachO kq l0 seen todo = some r) ∧ Hid (kq ≤ l0.length + 2) ∧ Hid (RI w wq g5 g6 (.slice A3 l0.length c3) seen vt todo))
  case atStart => exact ⟨seen1, todo1, vt3, HL, Lib.hid (Nat.le_refl _), I3⟩
  case round =>
    clear HL I3
    obtain ⟨seen, todo, vt, HA, HK, HI⟩ := hrel
    cases gk with
    | zero => exact absurd HA.out (by simp [reachO])
    | succ k1 =>
      have H := HA.out
      clear HA
      rw [reachO] at H
      obtain ⟨hB, h5, h6, hb5, hb6, hs, ht⟩ := HI.out
      have c5 : wr.cell? ⟨g5, 0, none⟩ = some (.slice A3 l0.length c3) := (blk_cell hb5 0).trans rfl
      have c6 : wr.cell? ⟨g6, 0, none⟩ = some vt := (blk_cell hb6 0).trans rfl
      have f6 := blk_frozen hb6 0
      cases hlast : todo.getLast? with
      | none =>
        rw [hlast] at H
        cases H
        have : todo = [] := List.getLast?_eq_none_iff.1 hlast
        subst this
        obtain ⟨A, c, rfl⟩ := Kd.R_slice ht
        have HS := Lib.hid hs
        have HB := Lib.hid hB
        clear hs ht hB hb5 hb6 hlast
        go_wp2
        go_ret
        exact ⟨_, rfl, HS.out, HB.out⟩
      | some x =>
        rw [hlast] at H
        dsimp only at H
        obtain ⟨t, rfl⟩ : ∃ t, todo = t ++ [x] := List.getLast?_eq_some_iff.1 hlast
        rw [List.dropLast_concat] at H
        by_cases hx : 0 ≤ x ∧ x < (l0.length : Int)
        case neg => rw [if_neg hx] at H; cases H
        rw [if_pos hx] at H
        obtain ⟨hx0, hx1⟩ := hx
        obtain ⟨⟨seen2, todo2⟩, hms, H2⟩ := Option.bind_eq_some_iff.mp H
        clear H
        have HA := Lib.hid H2
        have HMS := Lib.hid hms
        clear H2 hms hlast
        obtain ⟨gt, cap, rfl, hgt, hgl, cells, hbt⟩ := Kd.R_form ht (by simp)
        obtain ⟨hc, hf⟩ := Kd.R_cell 0 ht ((t.length : Int)) (by omega) (by simp; omega)
        have hrd : rdOf 0 (t ++ [x]) (t.length : Int) = x := by unfold rdOf; simp
        rw [hrd, Int.toNat_natCast] at hc
        rw [Int.toNat_natCast] at hf
        have hlen : (t ++ [x]).length = t.length + 1 := by simp
        have htk := Kd.R_take ht (m := t.length) (by simp)
        rw [List.take_left] at htk
        rw [hlen] at c6 hb6 ht
        have htl : t.length + 1 ≤ 9223372036854775807 := by
          have := (Kd.R_reads' ht).2.2.2.1
          rw [hlen] at this
          exact this
        have hcap : t.length + 1 ≤ cap := (Kd.R_reads' ht).2.1
        have n6 : gt ≠ g6 := fun e => (Kd.R_ne ht hb6 (by decide)) (by rw [e]; rfl)
        have HTK := Lib.hid htk
        have HS := Lib.hid hs
        have HB := Lib.hid hB
        have HB5 := Lib.hid hb5
        have HB6 := Lib.hid hb6
        obtain ⟨ad, Ar, cr, rfl, hxw, hla, hCr⟩ := at_L1 HR.out x hx0 hx1
        obtain ⟨bA, oA, mA⟩ := ad
        cases mA with
        | some z =>
          exfalso
          obtain ⟨ad0, A0', c0', e0, hx00, _, _⟩ := at_L1 HR.out 0 (by omega) (by omega)
          cases e0
          have := congrArg Addr.spot (addr_none hx00)
          simp [Addr.add] at this
        | none =>
        rw [add_at] at hxw
        have hadlt : bA < w.heap.size := World.block_lt_of_cell? w _ hxw
        have hxa : wr.cell? ⟨bA, oA + x.toNat, none⟩ = some (.slice Ar (rd_L1 l0 x).length cr) := (hB.cell (p := ⟨bA, oA + x.toNat, none⟩) hadlt).trans hxw
        have hA6 : bA ≠ g6 := by omega
        have HCR := Lib.hid hCr
        have h56 : g5 ≠ g6 := fun e => by
          have h1 := hb5
          have h2 := hb6
          rw [e, h2] at h1
          simp at h1
        have I1 := Lib.hid (show RI w (wr.setCell ⟨g6, 0, none⟩ (.slice (some ⟨gt, 0, none⟩) t.length cap)) g5 g6 (.slice A3 l0.length c3) seen (.slice (some ⟨gt, 0, none⟩) t.length cap) t from
          ⟨hB.setCell h6 _, h5, h6, blk_far hb5 h56 _, (blk_set hb6 0 _).trans rfl, Kd.R_set hs hb6 (by decide) 0 _, Kd.R_set htk hb6 (by decide) 0 _⟩)
        clear hs ht hB hb5 hb6 hrd hlen htk hbt hCr hla cells HI HTK HS HB HB5 HB6 hxw
        generalize hrw : rd_L1 l0 x = row at *
        have hrl : row.length ≤ 9223372036854775807 := HCR.out.2.1
        clear hrw
        go_wp2
        clear c5 c6 f6 hc hf hxa
        go_loopg [37] (row.length + 1) (fun kq s37 wq => ∃ (i : Nat) (seen : List Bool) (todo : List Int) (vt : Value), s37 = .int .i64 i ∧ kq + i = row.length + 1 ∧ i ≤ row.length ∧ Hid (marksP seen todo (row.drop i) = some (seen2, todo2)) ∧ Hid (RI w wq g5 g6 (.slice A3 l0.length c3) seen vt todo))
        case atStart => exact ⟨0, seen, t, _, rfl, rfl, Nat.zero_le _, HMS, I1⟩
        case round =>
          clear I1 HMS seen
          obtain ⟨i, seen, todo, vt, rfl, hki, hir, HM, HI⟩ := hrel
          by_cases hlt : i < row.length
          · obtain ⟨k2, rfl⟩ : ∃ k2, gk = k2 + 1 := ⟨gk - 1, by omega⟩
            obtain ⟨ad3, e3, hx3⟩ := Kd.at_int (Kd.C_below HCR.out HI.out.1) (i : Int) (by omega) (by omega)
            cases e3
            have hm := HM.out
            rw [List.drop_eq_getElem_cons hlt, marksP] at hm
            obtain ⟨⟨seen3, todo3⟩, hm3, hm4⟩ := Option.bind_eq_some_iff.mp hm
            have hy : rd row (i : Int) = row[i] := by unfold rd; simp [List.getD_eq_getElem?_getD, List.getElem?_eq_getElem hlt]
            rw [hy, Int.toNat_natCast] at hx3
            have HM4 := Lib.hid hm4
            have HC := Lib.hid (mark_calls HI.out hm3)
            have KI := Lib.hid hki
            have hw1 : IntKind.i64.wrap ((i : Int) + 1) = (i : Int) + 1 := IntWalk.i64_in _ (by omega)
            generalize row[i] = y at *
            clear hm hm3 hm4 hy hki HM HI
            go_wp2_with fail
            refine HC.out.mono ?_
            rintro e w5 ⟨rfl, vt5, hI5⟩
            have I5 := Lib.hid hI5
            clear hI5 HC hx3
            go_wp2
            go_roundg k2
            case measure => omega
            case rel => exact ⟨i + 1, seen3, todo3, vt5, by go_num, by have := KI.out; omega, by omega, HM4, I5⟩
          · obtain rfl : i = row.length := by omega
            have hm := HM.out
            rw [List.drop_length, marksP] at hm
            cases hm
            clear HM
            go_wp2
            go_roundg k1
            case measure => omega
            case rel => exact ⟨seen2, todo2, vt, HA, Lib.hid (by have := HK.out; omega), HI⟩
end Go.Proofs.Ytngmdccheaidkaa.Pr
