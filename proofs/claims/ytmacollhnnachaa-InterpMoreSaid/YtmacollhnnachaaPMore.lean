/- The statement InterpMore, of lists and numbers alone. -/
import Derived.Test.YtmacollhnnachaaPEnds
import Derived.Test.YtmacollhnnachaaF3
namespace Go.Proofs.Ytmacollhnnachaa.Pr
set_option linter.unusedVariables false
set_option linter.unusedSimpArgs false
open Go.RowKit Go.Proofs.YtmacollhnnachaaW.PrintWords Go.Proofs.YtmacollhnnachaaW.PrintLast Go.Proofs.YtmacollhnnachaaW.PrintMore
/-- What was visited stays. -/
theorem run_ahead {l : List S38} {most : Int} : ∀ (k : Nat) (n : Int) (vars : List S35) (ins : List Int) (ora : List Bool) (out r : List S33), runO k l most n vars ins ora out = some r → ∃ t, r = out ++ t
  | 0, n, vars, ins, ora, out, r, h => by simp [runO] at h
  | k + 1, n, vars, ins, ora, out, r, h => by
    rw [runO] at h
    split at h
    · obtain ⟨p, hp, h⟩ := Option.bind_eq_some_iff.mp h
      obtain ⟨t, rfl⟩ := run_ahead k _ _ _ _ _ _ h
      exact ⟨[⟨n, vars⟩] ++ t, by simp⟩
    · cases h; exact ⟨[], by simp⟩
theorem run_longer {l : List S38} {most more : Int} (hm : min most 1000 ≤ min more 1000) : ∀ (k k' : Nat) (n : Int) (vars : List S35) (ins : List Int) (ora : List Bool) (out a b : List S33),
    runO k l most n vars ins ora out = some a → runO k' l more n vars ins ora out = some b → ∃ t, b = a ++ t
  | 0, _, n, vars, ins, ora, out, a, b, h, _ => by simp [runO] at h
  | k + 1, 0, n, vars, ins, ora, out, a, b, _, h => by simp [runO] at h
  | k + 1, k' + 1, n, vars, ins, ora, out, a, b, h, h' => by
    rw [runO] at h
    split at h
    · rename_i c
      rw [runO, if_pos ⟨c.1, c.2.1, by omega⟩] at h'
      obtain ⟨p, hp, h⟩ := Option.bind_eq_some_iff.mp h
      rw [hp] at h'
      exact run_longer hm k k' _ _ _ _ _ _ _ h h'
    · cases h
      exact run_ahead _ _ _ _ _ _ _ h'
/-- The inputs, and zeros behind them. -/
def Zeros (ins ins' : List Int) : Prop := ∃ j, ins' = ins ++ List.replicate j 0
theorem zeros_hd {ins ins' : List Int} (h : Zeros ins ins') : hdI ins' = hdI ins := by
  obtain ⟨j, rfl⟩ := h
  unfold hdI
  cases ins with
  | cons a l => rfl
  | nil => cases j <;> rfl
theorem zeros_tl {ins ins' : List Int} (h : Zeros ins ins') : Zeros ins.tail ins'.tail := by
  obtain ⟨j, rfl⟩ := h
  cases ins with
  | cons a l => exact ⟨j, rfl⟩
  | nil => exact ⟨j - 1, by cases j <;> rfl⟩
theorem zeros_step {l : List S38} {vars : List S35} {ins ins' : List Int} {ora : List Bool} {n : Int} (h : Zeros ins ins') :
    (∃ m v i i' o, stepO l vars ins ora n = some (m, v, i, o) ∧ stepO l vars ins' ora n = some (m, v, i', o) ∧ Zeros i i') ∨ (stepO l vars ins ora n = none ∧ stepO l vars ins' ora n = none) := by
  unfold stepO
  split
  · unfold madeO
    split
    · simp only [Option.bind_some]; split
      · exact .inl ⟨_, _, _, _, _, rfl, rfl, h⟩
      · exact .inr ⟨rfl, rfl⟩
    · split
      · simp only [Option.bind_some]; split
        · exact .inl ⟨_, _, _, _, _, rfl, by rw [zeros_hd h], zeros_tl h⟩
        · exact .inr ⟨rfl, rfl⟩
      · split
        · cases vars.find? (isV (rd_T38 l n).f2) with
          | none => exact .inr ⟨rfl, rfl⟩
          | some y =>
            simp only [Option.map_some, Option.bind_some]; split
            · exact .inl ⟨_, _, _, _, _, rfl, rfl, h⟩
            · exact .inr ⟨rfl, rfl⟩
        · split
          · cases vars.find? (isV (rd_T38 l n).f2) with
            | none => exact .inr ⟨rfl, rfl⟩
            | some y =>
              simp only [Option.map_some, Option.bind_some]; split
              · exact .inl ⟨_, _, _, _, _, rfl, rfl, h⟩
              · exact .inr ⟨rfl, rfl⟩
          · split
            · cases vars.find? (isV (rd_T38 l n).f2) with
              | none => exact .inr ⟨rfl, rfl⟩
              | some y =>
                cases vars.find? (isV (rd_T38 l n).f3) with
                | none => exact .inr ⟨rfl, rfl⟩
                | some z =>
                  obtain ⟨q, hq⟩ := operated_some (rd_T38 l n).f4 y.f1 z.f1
                  simp only [Option.bind_some, hq, Option.map_some]; split
                  · exact .inl ⟨_, _, _, _, _, rfl, rfl, h⟩
                  · exact .inr ⟨rfl, rfl⟩
            · exact .inr ⟨rfl, rfl⟩
  · split
    · cases vars.find? (isV (rd_T38 l n).f2) with
      | none => exact .inr ⟨rfl, rfl⟩
      | some y => exact .inl ⟨_, _, _, _, _, rfl, rfl, h⟩
    · repeat' split
      all_goals exact .inl ⟨_, _, _, _, _, rfl, rfl, h⟩
theorem run_zeros {l : List S38} {most : Int} : ∀ (k : Nat) (n : Int) (vars : List S35) (ins ins' : List Int) (ora : List Bool) (out : List S33), Zeros ins ins' → runO k l most n vars ins' ora out = runO k l most n vars ins ora out
  | 0, _, _, _, _, _, _, _ => rfl
  | k + 1, n, vars, ins, ins', ora, out, h => by
    rw [runO, runO]
    split
    · rcases zeros_step (l := l) (vars := vars) (ora := ora) (n := n) h with ⟨m, v, i, i', o, e, e', hz⟩ | ⟨e, e'⟩
      · rw [e, e']
        simp only [Option.bind_some]
        exact run_zeros k _ _ _ _ _ _ hz
      · rw [e, e']
    · rfl
/-- Whatever is visited, all names have something. -/
theorem run_has {l : List S38} {most : Int} : ∀ (k : Nat) (n : Int) (vars : List S35) (ins : List Int) (ora : List Bool) (out r : List S33), Has l vars → (∀ v ∈ out, Has l v.f1) → runO k l most n vars ins ora out = some r → ∀ v ∈ r, Has l v.f1
  | 0, n, vars, ins, ora, out, r, _, _, h => by simp [runO] at h
  | k + 1, n, vars, ins, ora, out, r, hv, ho, h => by
    rw [runO] at h
    split at h
    · rename_i c
      obtain ⟨m, vars', ins', ora', hs, h'⟩ := step_some hv ins ora c.1 c.2.1
      rw [hs] at h
      refine run_has k _ _ _ _ _ _ h' (fun v hv' => ?_) h
      rcases List.mem_append.1 hv' with e | e
      · exact ho v e
      · rw [List.mem_singleton] at e; subst e; exact hv
    · cases h; exact ho
theorem rd33_get {r : List S33} {i : Nat} (h : i < r.length) : rd_T33 r (i : Int) = r[i] := by
  unfold rd_T33
  simp [List.getD_eq_getElem?_getD, List.getElem?_eq_getElem h]
theorem more_l1 {a b : List S33} {i : Nat} (hi : i < a.length) (hib : i < b.length) (hab : rd_T33 b (i : Int) = rd_T33 a (i : Int)) (hm : ((rd_T33 a (i : Int)).f1).length ≤ 1000000) (hnext : Ev (fun k => lambrequinlaw22_InterpMore.l0 k true a b a (wrap64 ((i : Int) + 1))) true) :
    ∀ (d j : Nat), j + d = ((rd_T33 a (i : Int)).f1).length → Ev (fun k => lambrequinlaw22_InterpMore.l1 k true a b a (i : Int) (j : Int)) true
  | 0, j, hj => by
    refine Ev.step (fun k => ?_) hnext
    simp only [lambrequinlaw22_InterpMore.l1]
    rw [if_pos (by omega), if_pos (by omega), if_neg (by omega)]
  | d + 1, j, hj => by
    have hw : wrap64 ((j : Int) + 1) = ((j + 1 : Nat) : Int) := by unfold wrap64; omega
    refine Ev.step (fun k => ?_) (more_l1 hi hib hab hm hnext d (j + 1) (by omega))
    simp only [lambrequinlaw22_InterpMore.l1]
    rw [if_pos (by omega), if_pos (by omega), if_pos (by omega), if_pos (by omega), if_pos (by omega), hab, if_pos (by omega), if_neg (by simp), if_pos (by omega), if_pos (by omega), hw]
    simp
theorem more_l0 {a b : List S33} (ha : a.length ≤ 1000) (hab : ∃ t, b = a ++ t) (hm : ∀ v ∈ a, v.f1.length ≤ 1000000) : ∀ (d i : Nat), i + d = a.length → Ev (fun k => lambrequinlaw22_InterpMore.l0 k true a b a (i : Int)) true
  | 0, i, hi => by
    refine Ev.step (fun k => ?_) (Ev.now true)
    simp only [lambrequinlaw22_InterpMore.l0]
    rw [if_neg (by omega)]
  | d + 1, i, hi => by
    have hia : i < a.length := by omega
    have hib : i < b.length := by obtain ⟨t, rfl⟩ := hab; simp; omega
    have he : rd_T33 b (i : Int) = rd_T33 a (i : Int) := by
      rw [rd33_get hia, rd33_get hib]
      obtain ⟨t, rfl⟩ := hab
      rw [List.getElem_append_left hia]
    have hw : wrap64 ((i : Int) + 1) = ((i + 1 : Nat) : Int) := by unfold wrap64; omega
    have hl : ((rd_T33 a (i : Int)).f1).length ≤ 1000000 := by rw [rd33_get hia]; exact hm _ (List.getElem_mem hia)
    have h0 := more_l0 ha hab hm d (i + 1) (by omega)
    rw [← hw] at h0
    have h1 := more_l1 hia hib he hl h0 _ 0 (Nat.zero_add _)
    refine Ev.step (f := fun k => lambrequinlaw22_InterpMore.j2 k true a b a (i : Int) false) (fun k => ?_) (Ev.step (fun k => ?_) h1)
    · simp only [lambrequinlaw22_InterpMore.l0]
      rw [if_pos (by omega), if_pos (by omega), if_pos (by omega), he, if_pos rfl, if_pos (by omega), if_pos trivial, if_pos rfl, bne_self_eq_false]
    · simp only [lambrequinlaw22_InterpMore.j2]
      rw [if_neg (by simp)]; rfl
theorem InterpMore.pure (shown : lambrequinlaw22_shown.f = some true) (l : List S38) (ins : List Int) (ora : List Bool) (most more : Int) (hi : ins.length * 8 ≤ 140737488351232) (h0 : 0 ≤ more) (_ : more ≤ 255) : ∃ k, lambrequinlaw22_InterpMore.f k l ins ora most more = some true := by
  by_cases c : (l.length : Int) ≤ 25 ∧ most ≤ 60
  case neg =>
    refine ⟨0, ?_⟩
    unfold lambrequinlaw22_InterpMore.f
    rw [shown, few_f]
    simp only [Option.bind_some, decide_eq_true_eq]
    rw [if_neg c]
  have hmm : wrap64 (Int.tmod more 20) = more % 20 := by
    rw [Int.tmod_eq_emod_of_nonneg h0]; unfold wrap64; omega
  have hmx : mx most 0 = max most 0 := by unfold mx; omega
  have hw : wrap64 (max most 0 + more % 20) = max most 0 + more % 20 := by unfold wrap64; omega
  obtain ⟨a, ha⟩ := run_some (l := l) (most := most) 1001 0 ((namesP l).map startV) ins ora [] (start_has l) (by simp; omega)
  obtain ⟨b, hb⟩ := run_some (l := l) (most := max most 0 + more % 20) 1001 0 ((namesP l).map startV) ins ora [] (start_has l) (by simp; omega)
  have hz : Zeros ins ([] ++ ins ++ [0, 0]) := ⟨2, by simp⟩
  have hc := (run_zeros (most := most) 1002 0 ((namesP l).map startV) ins ([] ++ ins ++ [0, 0]) ora [] hz).trans ha
  have hab : ∃ t, b = a ++ t := run_longer (by omega) _ _ _ _ _ _ _ _ _ ha hb
  have hal : a.length ≤ 1000 := by
    have := (run_end _ _ _ _ _ _ _ ha).2.1
    simp only [List.length_nil] at this
    omega
  have hn : (namesP l).length ≤ 1000000 := by
    have := sortedP_len_le (rawN l)
    have := rawN_len l
    unfold namesP
    omega
  have hv : ∀ v ∈ a, v.f1.length ≤ 1000000 := fun v hv => by
    have h := run_has _ _ _ _ _ _ _ (start_has l) (by simp) ha v hv
    have h2 := congrArg List.length h
    rw [List.length_map] at h2
    omega
  have hE := more_l0 hal hab hv a.length 0 (Nat.zero_add _)
  have hJ : Ev (fun k => lambrequinlaw22_InterpMore.j0 k true a b a false) true := by
    refine Ev.step (fun k => ?_) hE
    simp only [lambrequinlaw22_InterpMore.j0]
    rw [if_neg (by simp)]; rfl
  obtain ⟨k, hk⟩ := hJ.rounds
  refine ⟨k, ?_⟩
  unfold lambrequinlaw22_InterpMore.f
  rw [shown, few_f]
  simp only [Option.bind_some, decide_eq_true_eq]
  rw [if_pos c, hmm, hmx, hw, run_f (by omega), run_f (by omega), run_f (by omega), ha, hb]
  simp only [Option.bind_some]
  rw [if_pos (by simp; omega), if_pos (by simp; omega), hc]
  simp only [Option.bind_some]
  have hlen : ¬ ((a.length : Int) > (b.length : Int)) := by obtain ⟨t, rfl⟩ := hab; simp; omega
  rw [if_neg hlen, bne_self_eq_false]
  exact hk
end Go.Proofs.Ytmacollhnnachaa.Pr
