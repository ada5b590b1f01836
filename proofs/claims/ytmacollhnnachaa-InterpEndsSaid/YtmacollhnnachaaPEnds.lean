/- The statement InterpEnds, of lists and numbers alone. -/
import Derived.Test.YtmacollhnnachaaPInt
import Derived.Test.YtmacollhnnachaaF4
namespace Go.Proofs.Ytmacollhnnachaa.Pr
open Go.RowKit Go.Proofs.YtmacollhnnachaaW.PrintWords Go.Proofs.YtmacollhnnachaaW.PrintLast Go.Proofs.YtmacollhnnachaaW.PrintMore
theorem few_f (l : List S38) (ins : List Int) (ora : List Bool) (most : Int) : lambrequinlaw22_few.f l ins ora most = some (decide ((l.length : Int) ≤ 25 ∧ most ≤ 60)) := by
  unfold lambrequinlaw22_few.f
  by_cases c : (l.length : Int) ≤ 25
  · rw [if_pos c]; simp [c]
  · rw [if_neg c]; simp [c]
theorem step_kind {l : List S38} {vars : List S35} {ins : List Int} {ora : List Bool} {n m : Int} {p : List S35 × List Int × List Bool} (h : stepO l vars ins ora n = some (m, p)) :
    ((rd_T38 l n).f0 = 7 ∧ (m = (rd_T38 l n).f6 ∨ m = (rd_T38 l n).f7)) ∨ ((rd_T38 l n).f0 = 8 ∧ m = (rd_T38 l n).f6) ∨ (rd_T38 l n).f0 = 9 ∨ ((rd_T38 l n).f0 ≠ 7 ∧ (rd_T38 l n).f0 ≠ 8 ∧ (rd_T38 l n).f0 ≠ 9 ∧ m = n + 1) := by
  unfold stepO at h
  split at h
  · rename_i c
    obtain ⟨q, _, h⟩ := Option.bind_eq_some_iff.mp h
    split at h
    · cases h; exact .inr (.inr (.inr ⟨by omega, by omega, by omega, rfl⟩))
    · cases h
  · split at h
    · rename_i c
      obtain ⟨y, _, h⟩ := Option.map_eq_some_iff.mp h
      refine .inl ⟨c, ?_⟩
      simp only [Prod.mk.injEq] at h
      rw [← h.1]
      split
      · exact .inl rfl
      · exact .inr rfl
    · split at h
      · rename_i c; cases h; exact .inr (.inl ⟨c, rfl⟩)
      · split at h
        · rename_i c; exact .inr (.inr (.inl c))
        · cases h; exact .inr (.inr (.inr ⟨by omega, by omega, by omega, rfl⟩))
theorem rd33_last {r : List S33} {v : S33} (h : r.getLast? = some v) : rd_T33 r ((r.length : Int) - 1) = v := by
  rw [List.getLast?_eq_getElem?] at h
  unfold rd_T33
  have : ((r.length : Int) - 1).toNat = r.length - 1 := by omega
  rw [this, List.getD_eq_getElem?_getD, h]; rfl
theorem InterpEnds.pure (shown : lambrequinlaw22_shown.f = some true) (l : List S38) (ins : List Int) (ora : List Bool) (most : Int) : ∃ k, lambrequinlaw22_InterpEnds.f k l ins ora most = some true := by
  refine ⟨2 + 1, ?_⟩
  unfold lambrequinlaw22_InterpEnds.f
  rw [shown, few_f]
  simp only [Option.bind_some, decide_eq_true_eq]
  by_cases c : (l.length : Int) ≤ 25 ∧ most ≤ 60
  case neg => rw [if_neg c]
  rw [if_pos c, run_f (by omega)]
  obtain ⟨r, hr⟩ := run_some (l := l) (most := most) 1001 0 ((namesP l).map startV) ins ora [] (start_has l) (by simp; omega)
  rw [hr]
  simp only [Option.bind_some]
  by_cases c0 : (l.length : Int) = 0 ∨ most ≤ 0
  · have hr0 : r = [] := by
      rw [runO, if_neg (by simp; omega)] at hr
      exact (Option.some.inj hr).symm
    subst hr0
    have key : lambrequinlaw22_InterpEnds.j0 (2 + 1) true ([] : List S33) true l ins ora most = some true := by
      simp only [lambrequinlaw22_InterpEnds.j0]; rfl
    by_cases c1 : (l.length : Int) = 0
    · rw [if_pos c1]; exact key
    · rw [if_neg c1, decide_eq_true (by omega : most ≤ 0)]; exact key
  · rw [if_neg (by omega), decide_eq_false (by omega : ¬ most ≤ 0)]
    have hpos : 1 ≤ r.length := by
      rw [runO, if_pos (by simp; omega)] at hr
      obtain ⟨p, _, hr⟩ := Option.bind_eq_some_iff.mp hr
      exact (run_end _ _ _ _ _ _ _ hr).1
    obtain ⟨_, h2, h3⟩ := run_end _ _ _ _ _ _ _ hr
    simp only [List.length_nil] at h2
    simp only [lambrequinlaw22_InterpEnds.j0]
    rw [if_neg (by simp), if_neg (by omega)]
    simp only [lambrequinlaw22_InterpEnds.j1]
    by_cases c2 : (r.length : Int) = most
    · rw [if_pos (by simpa using c2), if_pos trivial]; simp; omega
    · rw [if_neg (by simpa using c2)]
      rcases h3 with h3 | ⟨_, h3⟩ | ⟨n, vars1, ins1, ora1, m, p, hlast, hn0, hn1, hst, hm⟩
      · omega
      · omega
      · have hw : wrap64 ((r.length : Int) - 1) = (r.length : Int) - 1 := by unfold wrap64; omega
        rw [hw, if_pos (by omega), if_pos (by omega), rd33_last hlast]
        simp only
        rw [if_neg (by omega), decide_eq_false (by omega : ¬ n ≥ (l.length : Int))]
        have hw2 : wrap64 ((l.length : Int) - 1) = (l.length : Int) - 1 := by unfold wrap64; omega
        have hk := step_kind hst
        show lambrequinlaw22_InterpEnds.j2 (0 + 1) true n false l ins ora most = some true
        simp only [lambrequinlaw22_InterpEnds.j2]
        rw [if_neg (by simp), if_pos hn0, if_pos hn1, hw2]
        rcases hk with ⟨e, hk⟩ | ⟨e, hk⟩ | e | ⟨e7, e8, e9, hk⟩
        · rw [if_pos e]
          by_cases a1 : (rd_T38 l n).f6 < 0
          · rw [if_pos a1]; rfl
          rw [if_neg a1]
          by_cases a2 : (rd_T38 l n).f6 ≥ (l.length : Int)
          · rw [if_pos a2]; rfl
          rw [if_neg a2]
          by_cases a3 : (rd_T38 l n).f7 < 0
          · rw [if_pos a3]; rfl
          rw [if_neg a3, if_pos trivial, if_pos (by omega)]
        · rw [if_neg (by omega), if_pos e]
          by_cases a1 : (rd_T38 l n).f6 < 0
          · rw [if_pos a1]; rfl
          rw [if_neg a1, if_pos (by omega)]; rfl
        · rw [if_neg (by omega), if_neg (by omega), if_pos trivial]
          split
          · rfl
          · simp [e]
        · rw [if_neg e7, if_neg e8, if_pos trivial, if_pos (by omega)]
end Go.Proofs.Ytmacollhnnachaa.Pr
