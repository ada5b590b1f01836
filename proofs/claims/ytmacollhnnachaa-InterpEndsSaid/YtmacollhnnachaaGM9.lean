/- A statement done, whatever its kind, as one law. -/
import Derived.Test.YtmacollhnnachaaGM8
namespace Go.Proofs.Ytmacollhnnachaa.Pr
open Go.RowKit Go.Proofs.YtmacollhnnachaaW.PrintWords Go.Proofs.YtmacollhnnachaaW.PrintLast Go.Proofs.YtmacollhnnachaaW.PrintMore
open Go.Lib

/-- What a statement leads to: the next statement's number, what names have, what is left of the script. -/
def stepO (l : List S38) (vars : List S35) (ins : List Int) (ora : List Bool) (n : Int) : Option (Int × List S35 × List Int × List Bool) :=
  if 1 ≤ (rd_T38 l n).f0 ∧ (rd_T38 l n).f0 ≤ 5 then
    (madeO vars ins n (rd_T38 l n)).bind fun p => if 0 ≤ idxV vars (rd_T38 l n).f1 then some (n + 1, vars.set (idxV vars (rd_T38 l n).f1).toNat p.1, p.2, ora) else none
  else if (rd_T38 l n).f0 = 7 then (vars.find? (isV (rd_T38 l n).f2)).map fun y => (if hdB ora (y.f1 != 0) = true then (rd_T38 l n).f6 else (rd_T38 l n).f7, vars, ins, ora.tail)
  else if (rd_T38 l n).f0 = 8 then some ((rd_T38 l n).f6, vars, ins, ora)
  else if (rd_T38 l n).f0 = 9 then some (-1, vars, ins, ora)
  else some (n + 1, vars, ins, ora)
theorem idxV_lt {vars : List S35} {name : ByteArray} (h : 0 ≤ idxV vars name) : ∃ i : Nat, i < vars.length ∧ idxV vars name = i := by
  unfold idxV at *
  cases e : vars.findIdx? (isV name) with
  | none => rw [e] at h; simp at h
  | some i =>
    rw [List.findIdx?_eq_some_iff_getElem] at e
    obtain ⟨hi, _⟩ := e
    exact ⟨i, hi, rfl⟩

theorem step_calls {w0 w : World} {g : Nat} {v : Value} {l : List S38} {ins ins' : List Int} {ora ora' : List Bool} {vars vars' : List S35} {n m : Int} (h : MI w0 w g l ins ora v) (hR : Kd.R k35 35 w w0.heap.size (fun k => k ≠ g) v vars)
    (hn0 : 0 ≤ n) (hn : n < (l.length : Int)) (hs : stepO l vars ins ora n = some (m, vars', ins', ora')) :
    Calls Try.prog 39 #[.pointer (some ⟨g, 0, none⟩), .int .i64 n] w fun e w' => e = .returned (.int .i64 m) ∧ MI w0 w' g l ins' ora' v ∧ Kd.R k35 35 w' w0.heap.size (fun k => k ≠ g) v vars' ∧ Kept w w' (fun k => k = g ∨ v.ownBlock = some k) := by
  unfold stepO at hs
  by_cases c1 : 1 ≤ (rd_T38 l n).f0 ∧ (rd_T38 l n).f0 ≤ 5
  · rw [if_pos c1] at hs
    obtain ⟨⟨x, ins1⟩, hm, hs⟩ := Option.bind_eq_some_iff.mp hs
    dsimp only at hs
    by_cases c2 : 0 ≤ idxV vars (rd_T38 l n).f1
    · rw [if_pos c2] at hs
      obtain ⟨i, hi, hix⟩ := idxV_lt c2
      rw [hix] at hs
      injection hs with hs
      injection hs with e1 hs
      injection hs with e2 hs
      injection hs with e3 e4
      subst e1 e2 e3 e4
      obtain ⟨gv, cap, rfl, _⟩ := Kd.R_form hR (by omega)
      refine (step_def h hR hn0 hn (by unfold defK; omega) hm hi hix).mono ?_
      rintro e w' ⟨rfl, h1, h2, h3⟩
      exact ⟨rfl, h1, h2, h3.mono (fun k hk => hk.elim .inl (fun e => .inr (by rw [e]; rfl)))⟩
    · rw [if_neg c2] at hs
      cases hs
  · rw [if_neg c1] at hs
    have hk : ¬ defK (rd_T38 l n).f0 := by unfold defK; omega
    have old : ∀ {e : Ending} {w' : World} {q : Int}, e = .returned (.int .i64 q) ∧ Below w.heap.size w w' → e = .returned (.int .i64 q) ∧ MI w0 w' g l ins ora v ∧ Kd.R k35 35 w' w0.heap.size (fun k => k ≠ g) v vars ∧ Kept w w' (fun k => k = g ∨ v.ownBlock = some k) :=
      fun ⟨he, hb⟩ => ⟨he, h.below hb, Kd.R_below hR hb, Kept.of_below hb _⟩
    by_cases c7 : (rd_T38 l n).f0 = 7
    · rw [if_pos c7] at hs
      rw [Option.map_eq_some_iff] at hs
      obtain ⟨y, hy, hs⟩ := hs
      injection hs with e1 hs
      injection hs with e2 hs
      injection hs with e3 e4
      subst e2 e3 e4
      obtain ⟨A, c, rfl⟩ := Kd.R_slice hR
      refine (step_branch h (Kd.R_reads' hR).2.2 hy hn0 hn hk c7 e1).mono ?_
      rintro e w' ⟨rfl, h1, h2⟩
      exact ⟨rfl, h1, Kd.R_keep hR h2 (fun _ hk => hk), Kept.mono (Kept.of_keep (Kept.refl _ (fun k => k = g)) h2 (.inl rfl)) (fun k hk => .inl hk)⟩
    · rw [if_neg c7] at hs
      by_cases c8 : (rd_T38 l n).f0 = 8
      · rw [if_pos c8] at hs
        injection hs with hs
        injection hs with e1 hs
        injection hs with e2 hs
        injection hs with e3 e4
        subst e1 e2 e3 e4
        exact (step_jump h hn0 hn hk c8).mono (fun _ _ hh => old hh)
      · rw [if_neg c8] at hs
        by_cases c9 : (rd_T38 l n).f0 = 9
        · rw [if_pos c9] at hs
          injection hs with hs
          injection hs with e1 hs
          injection hs with e2 hs
          injection hs with e3 e4
          subst e1 e2 e3 e4
          exact (step_ret h hn0 hn hk c9).mono (fun _ _ hh => old hh)
        · rw [if_neg c9] at hs
          injection hs with hs
          injection hs with e1 hs
          injection hs with e2 hs
          injection hs with e3 e4
          subst e1 e2 e3 e4
          exact (step_next h hn0 hn hk c7 c8 c9).mono (fun _ _ hh => old hh)
end Go.Proofs.Ytmacollhnnachaa.Pr
