/- Texts of the seat, without what this claim does not use. -/
import Derived.Test.YtngmdccheaidkaaTFEq0
import Derived.Test.YtngmdccheaidkaaTShelf
import Derived.Lib.Hide
import Derived.Lib.SliceRun
import Derived.Lib.SlicesCompact
import Derived.IntWalk
/- slices.Compact at pairs of ints. -/
namespace Go.Proofs.Ytngmdccheaidkaa.Pr
open Go.RowKit Go.Proofs.YtngmdccheaidkaaW.PrintWords Go.Proofs.YtngmdccheaidkaaW.PrintLast Go.Proofs.YtngmdccheaidkaaW.PrintMore
open Go.Lib Go.Sort
attribute [local go_sem high] eqA27
abbrev Pair := Int × Int
def encP (x : Pair) : List Value := [.int .i64 x.1, .int .i64 x.2]
theorem encP_len (x : Pair) : (encP x).length = 2 := rfl
theorem holdsP {w : World} {blk : Nat} {d : Array Pair} (h : HoldsK encP 2 w blk 0 d) {i : Nat} (hi : i < d.size) :
    w.cell? ⟨blk, i * 2, none⟩ = some (.int .i64 (d[i]!).1) ∧ w.cell? ⟨blk, i * 2 + 1, none⟩ = some (.int .i64 (d[i]!).2) ∧ w.frozen? ⟨blk, i * 2, none⟩ = false ∧ w.frozen? ⟨blk, i * 2 + 1, none⟩ = false := by
  have h0 := HoldsK.cell h hi (c := 0) (by omega)
  have h1 := HoldsK.cell h hi (c := 1) (by omega)
  simp only [Nat.zero_add, Nat.add_zero] at h0 h1
  exact ⟨h0.1, h1.1, h0.2, h1.2⟩
theorem getE (x : Pair) (c : Nat) (hc : c < 2) : (encP x)[c]! = .int .i64 (if c = 0 then x.1 else x.2) := by
  rcases (show c = 0 ∨ c = 1 by omega) with rfl | rfl <;> rfl
theorem setMany_one (d : Array Pair) (i : Nat) (hi : i < d.size) (u : Pair) : setMany (flatK encP 2 d) (i * 2) (encP u) = flatK encP 2 (d.setIfInBounds i u) := by
  refine ext_get! (by simp) (fun t ht => ?_)
  rw [size_setMany, size_flatK] at ht
  rw [get_setMany _ _ _ _ (by simpa using ht), get_flatK _ _ _ _ ht, get_flatK _ _ _ _ (by simpa using ht), encP_len]
  by_cases c : i * 2 ≤ t ∧ t < i * 2 + 2
  · have e := (blk_iff 2 i t (by omega)).1 c
    rw [if_pos c, e, getElem!_set_same d i u hi, show t - i * 2 = t % 2 by omega]
  · rw [if_neg c]
    have e : t / 2 ≠ i := fun e => c ((blk_iff 2 i t (by omega)).2 e)
    rw [getElem!_set_other d i (t / 2) u e]
theorem store_pair {w wr : World} {q n blk : Nat} {d : Array Pair} {i : Nat} (hi : i < d.size) (hwr : wr = putRowK encP 2 (Sort.ahead w q) blk 0 d) (u : Pair) :
    ((wr.drewN n).setCell ⟨blk, i * 2, none⟩ (.int .i64 u.1)).setCell ⟨blk, i * 2 + 1, none⟩ (.int .i64 u.2) = putRowK encP 2 (Sort.ahead w (q + n)) blk 0 (d.setIfInBounds i u) := by
  rw [hwr, putRowK_drewN]
  have h := setCells_putRow (Sort.ahead w (q + n)) blk 0 (encP u) (i * 2) (flatK encP 2 d) (by simp [encP]; omega)
  rw [setMany_one d i hi u, Nat.zero_add] at h
  exact h
theorem clear_pairs {w wr : World} {q blk k : Nat} {d dk : Array Pair} (hI : CompInv d d.size k dk) (hwr : wr = putRowK encP 2 (Sort.ahead w q) blk 0 dk) :
    wr.setCells blk (k * 2) (List.replicate ((d.size - k) * 2) (.int .i64 0)) = putRowK encP 2 (Sort.ahead w q) blk 0 (compactUpTo d d.size ++ List.replicate (d.size - k) (0, 0)).toArray := by
  have hk := hI.lt
  have hs := hI.size
  have hl := hI.len
  rw [hwr]
  have h := setCells_putRow (Sort.ahead w q) blk 0 (List.replicate ((d.size - k) * 2) (.int .i64 0)) (k * 2) (flatK encP 2 dk) (by simp; omega)
  rw [Nat.zero_add] at h
  unfold putRowK at *
  rw [h]
  congr 1
  refine ext_get! (by simp; omega) (fun t ht => ?_)
  rw [size_setMany, size_flatK] at ht
  rw [get_setMany _ _ _ _ (by simpa using ht), get_flatK _ _ _ _ ht, get_flatK _ _ _ _ (by simp; omega)]
  simp only [List.length_replicate]
  by_cases c : k * 2 ≤ t ∧ t < k * 2 + (d.size - k) * 2
  · rw [if_pos c]
    have e1 : (List.replicate ((d.size - k) * 2) (Value.int .i64 0))[t - k * 2]! = .int .i64 0 := by
      rw [getElem!_pos _ _ (by simp; omega)]; simp
    have e2 : ((compactUpTo d d.size ++ List.replicate (d.size - k) ((0, 0) : Pair)).toArray)[t / 2]! = (0, 0) := by
      rw [getElem!_pos _ _ (by simp; omega)]
      simp only [List.getElem_toArray]
      rw [List.getElem_append_right (by omega)]
      simp
    rw [e1, e2, getE _ _ (by omega)]
    split <;> rfl
  · rw [if_neg c]
    have e2 : ((compactUpTo d d.size ++ List.replicate (d.size - k) ((0, 0) : Pair)).toArray)[t / 2]! = dk[t / 2]! := by
      rw [getElem!_pos _ _ (by simp; omega)]
      simp only [List.getElem_toArray]
      rw [List.getElem_append_left (by omega)]
      have := hI.low (t / 2) (by omega)
      rw [List.getElem?_eq_getElem (by omega)] at this
      exact Option.some.inj this
    rw [e2]
theorem run_clear_pairs (w : World) (ty : TypeId) (b o n c : Nat) (hn : 0 < n)
    (hc : ∀ j, j < n * 2 → (w.cell? ⟨b, o + j, none⟩).isSome = true) (hf : ∀ j, j < n * 2 → w.frozen? ⟨b, o + j, none⟩ = false) :
    (Builtin.clear_ #[24] ty #[.slice (some ⟨b, o, none⟩) n c]).run Try.prog w = .ok (.tuple #[]) (w.setCells b o (List.replicate (n * 2) (.int .i64 0))) := by
  have hzc : (Builtin.zeroCells (Value.agg #[.int .i64 0, .int .i64 0]).cells n).toList = List.replicate (n * 2) (.int .i64 0) := by
    simp only [Value.cells, Builtin.zeroCells]
    apply List.ext_getElem
    · simp
    · intro i h1 h2
      simp
      rcases (show i % 2 = 0 ∨ i % 2 = 1 by omega) with e | e <;> simp [e]
  have hv : ∀ w, (zeroValue 27).run Try.prog w = .ok (.agg #[.int .i64 0, .int .i64 0]) w := fun w => Try.zeroValue27 w
  have hst := run_storeCells_cells (P := Try.prog) b o (List.replicate (n * 2) (.int .i64 0)) 0 w (by simpa using hc) (by simpa using hf) (by intro v hv'; rw [List.eq_of_mem_replicate hv']; rfl)
  simp only [Nat.add_zero] at hst
  obtain ⟨m, rfl⟩ : ∃ m, n = m + 1 := ⟨n - 1, by omega⟩
  simp [Builtin.clear_, run_underlying Try.underlying24, hv, hzc, hst]
set_option maxHeartbeats 4000000 in
set_option maxRecDepth 1000000 in
theorem compact44 (blk cap : Nat) (d : Array Pair) (w : World) (hH : HoldsK encP 2 w blk 0 d) (hsz : d.size ≤ 4611686018427387904) (hcap : d.size ≤ cap) :
    Calls Try.prog 44 #[.slice (some ⟨blk, 0, none⟩) d.size cap] w fun e w' => e = .returned (.slice (some ⟨blk, 0, none⟩) (compactUpTo d d.size).length cap) ∧ ∃ q, w' = putRowK encP 2 (Sort.ahead w q) blk 0 (compactUpTo d d.size ++ List.replicate (d.size - (compactUpTo d d.size).length) (0, 0)).toArray := by
  have hu27 := Try.underlying27
  have same : ∀ q, (∀ j, j < d.size → keeps d j = true) → (compactUpTo d d.size).length = d.size ∧ w.drewN q = putRowK encP 2 (Sort.ahead w q) blk 0 (compactUpTo d d.size ++ List.replicate (d.size - (compactUpTo d d.size).length) (0, 0)).toArray := by
    intro q hall
    have e : compactUpTo d d.size = d.toList := by rw [compactUpTo_all d _ hall, range_map_get]
    rw [e]
    refine ⟨by simp, ?_⟩
    simp only [Array.length_toList, Nat.sub_self, List.replicate_zero, List.append_nil, Array.toArray_toList]
    exact (putRowK_self encP 2 (Sort.ahead w q) blk 0 d (holdsK_ahead encP 2 w q blk 0 d hH)).symm
  have HS := Lib.hid same
  clear same
  have HH := Lib.hid hH
  clear hH
  by_cases h2 : d.size < 2
  · go_enter Try.func44, Try.ntmps44
    go_wp2
    go_ret
    obtain ⟨e1, e2⟩ := HS.out 0 (fun j hj => keeps_lt_one d j (by omega))
    exact ⟨by rw [e1]; rfl, 0, e2⟩
  · go_enter Try.func44, Try.ntmps44
    go_wp2
    go_loopg [3] d.size (fun g s3 wr => ∃ k q : Nat, 1 ≤ k ∧ k ≤ d.size ∧ d.size - k ≤ g ∧ s3 = .int .i64 k ∧ wr = w.drewN q ∧ ∀ j, j < k → keeps d j = true)
    case atStart => exact ⟨1, 0, Nat.le_refl _, by omega, by omega, rfl, rfl, keeps_lt_one d⟩
    case round =>
      obtain ⟨k, q, hk1, hk, hg, rfl, rfl, hall⟩ := hrel
      by_cases hlt : k < d.size
      · obtain ⟨c1, c1', f1, f1'⟩ := holdsP HH.out hlt
        obtain ⟨c0, c0', f0, f0'⟩ := holdsP HH.out (show k - 1 < d.size by omega)
        have A := Lib.hid hall
        clear hall
        generalize hx : (d[k]!) = x at c1 c1'
        generalize hy : (d[k - 1]!) = y at c0 c0'
        have B := Lib.hid (show (d[k]!) = x ∧ (d[k - 1]!) = y from ⟨hx, hy⟩)
        clear hx hy
        by_cases hdup : x = y
        · subst hdup
          go_wp2_with fail
          go_quiet (fail)
          go_wp2
          clear c0 c1 c0' c1' f0 f1 f0' f1'
          go_loopg [3, 5] d.size (fun g s3 s5 wr => ∃ (kk k2 q2 : Nat) (dk : Array Pair), s3 = .int .i64 kk ∧ s5 = .int .i64 k2 ∧ 1 ≤ k2 ∧ k + k2 ≤ d.size ∧ d.size - (k + k2) ≤ g ∧ wr = putRowK encP 2 (Sort.ahead w q2) blk 0 dk ∧ CompInv d (k + k2) kk dk)
          case atStart => exact ⟨k, 1, q + nq, d, rfl, rfl, Nat.le_refl _, by omega, by omega, (putRowK_self encP 2 (Sort.ahead w (q + nq)) blk 0 d (holdsK_ahead encP 2 w (q + nq) blk 0 d HH.out)).symm, CompInv.start A.out (keeps_neg (by omega) (by rw [B.out.1, B.out.2]))⟩
          case round =>
            obtain ⟨kk, k2, q2, dk, rfl, rfl, h1, hle, hg2, hwr, hI⟩ := hrel
            have hkk := hI.lt
            have hds := hI.size
            have hHk : HoldsK encP 2 wr blk 0 dk := by rw [hwr]; exact holdsK_putRowK encP 2 _ blk 0 d dk (holdsK_ahead encP 2 w q2 blk 0 d HH.out) hds
            have W2 := Lib.hid hwr
            have I2 := Lib.hid hI
            have HHK := Lib.hid hHk
            have DS := Lib.hid hds
            clear hwr
            by_cases hlt2 : k + k2 < d.size
            · obtain ⟨cm, cm', _, _⟩ := holdsP hHk (i := k + k2) (by omega)
              obtain ⟨cp, cp', _, _⟩ := holdsP hHk (i := k + k2 - 1) (by omega)
              obtain ⟨ck, ck', fk, fk'⟩ := holdsP hHk (i := kk) (by omega)
              rw [hI.high (k + k2) (by omega), show (k + k2) * 2 = k * 2 + k2 * 2 by omega] at cm cm'
              rw [hI.high (k + k2 - 1) (by omega), show (k + k2 - 1) * 2 = k * 2 + (k2 - 1) * 2 by omega] at cp cp'
              clear hHk hI hds
              generalize hu : (d[k + k2]!) = u at cm cm'
              generalize hv : (d[k + k2 - 1]!) = v at cp cp'
              generalize (dk[kk]!) = old at ck ck'
              have C := Lib.hid (show (d[k + k2]!) = u ∧ (d[k + k2 - 1]!) = v from ⟨hu, hv⟩)
              clear hu hv
              by_cases huv : u = v
              · subst huv
                go_wp2_with fail
                go_quiet (fail)
                go_wp2
                go_roundg (d.size - (k + (k2 + 1)))
                case measure => omega
                case rel => exact ⟨kk, k2 + 1, q2 + nq, dk, rfl, by go_num, by omega, by omega, Nat.le_refl _, by rw [W2.out]; exact putRowK_drewN encP 2 _ _ _ _ _ _, I2.out.skip (keeps_neg (by omega) (by rw [C.out.1, C.out.2]))⟩
              · have hne : (u.1 == v.1 && u.2 == v.2) = false := by
                  cases h : (u.1 == v.1 && u.2 == v.2) with
                  | false => rfl
                  | true =>
                    rw [Bool.and_eq_true, beq_iff_eq, beq_iff_eq] at h
                    exact absurd (Prod.ext h.1 h.2) huv
                go_wp2_with fail
                go_quiet (fail)
                go_wp2
                go_roundg (d.size - (k + (k2 + 1)))
                case measure => omega
                case rel => exact ⟨kk + 1, k2 + 1, q2 + nq, dk.setIfInBounds kk u, by go_num, by go_num, by omega, by omega, Nat.le_refl _, store_pair (by have := DS.out; omega) W2.out u, by have := I2.out.keep hlt2 (keeps_pos (by rw [C.out.1, C.out.2]; exact huv)); rwa [C.out.1] at this⟩
            · have hend : k + k2 = d.size := by omega
              have hcell : ∀ j, j < (d.size - kk) * 2 → (wr.cell? ⟨blk, kk * 2 + j, none⟩).isSome = true ∧ wr.frozen? ⟨blk, kk * 2 + j, none⟩ = false := fun j hj => by
                obtain ⟨a, b, c, e⟩ := holdsP hHk (i := kk + j / 2) (by omega)
                rcases (show j % 2 = 0 ∨ j % 2 = 1 by omega) with h | h
                · rw [show (kk + j / 2) * 2 = kk * 2 + j by omega] at a c
                  exact ⟨by rw [a]; rfl, c⟩
                · rw [show (kk + j / 2) * 2 + 1 = kk * 2 + j by omega] at b e
                  exact ⟨by rw [b]; rfl, e⟩
              have hcl : ∀ ty, (Builtin.clear_ #[24] ty #[.slice (some ⟨blk, kk * 2, none⟩) (d.size - kk) (cap - kk)]).run Try.prog wr = .ok (.tuple #[]) (wr.setCells blk (kk * 2) (List.replicate ((d.size - kk) * 2) (.int .i64 0))) :=
                fun ty => run_clear_pairs wr ty blk (kk * 2) _ _ (by omega) (fun j hj => (hcell j hj).1) (fun j hj => (hcell j hj).2)
              clear hHk hI hcell
              go_wp2
              go_ret
              have hI := I2.out
              rw [hend] at hI
              refine ⟨by rw [hI.len]; rfl, q2, ?_⟩
              rw [hI.len]
              exact clear_pairs hI W2.out
        · have hne : (x.1 == y.1 && x.2 == y.2) = false := by
            cases h : (x.1 == y.1 && x.2 == y.2) with
            | false => rfl
            | true =>
              rw [Bool.and_eq_true, beq_iff_eq, beq_iff_eq] at h
              exact absurd (Prod.ext h.1 h.2) hdup
          go_wp2_with fail
          go_quiet (fail)
          go_wp2
          go_roundg (d.size - (k + 1))
          case measure => omega
          case rel =>
            refine ⟨k + 1, q + nq, by omega, by omega, Nat.le_refl _, by go_num, rfl, fun j hj => ?_⟩
            by_cases e : j = k
            · subst e
              exact keeps_pos (by rw [B.out.1, B.out.2]; exact hdup)
            · exact A.out j (by omega)
      · have : k = d.size := by omega
        subst this
        have A := Lib.hid hall
        clear hall
        go_wp2
        go_ret
        obtain ⟨e1, e2⟩ := HS.out q A.out
        exact ⟨by rw [e1]; rfl, q, e2⟩
end Go.Proofs.Ytngmdccheaidkaa.Pr
