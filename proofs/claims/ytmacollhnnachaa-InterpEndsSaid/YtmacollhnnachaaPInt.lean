/- Plain laws of interp.Run: what a run visits. No program in sight. -/
import Derived.Test.YtmacollhnnachaaGRun
import Derived.Test.YtmacollhnnachaaPSort
namespace Go.Proofs.Ytmacollhnnachaa.Pr
open Go.RowKit Go.Proofs.YtmacollhnnachaaW.PrintWords Go.Proofs.YtmacollhnnachaaW.PrintLast Go.Proofs.YtmacollhnnachaaW.PrintMore

/-! ### names -/
def sortedP (l : List ByteArray) : List ByteArray := unstrs (Lib.compact ((strs l).mergeSort fun x y => decide (x ≤ y)))
theorem sorted_f {l : List ByteArray} (h : l.length ≤ 8796093022208) : cfg_sorted_string.f l = some (sortedP l) := by
  have h0 : ∀ m : List ByteArray, m.length < 4611686018427387904 → slices_Compact_string_string.f m = some (unstrs (Lib.compact (strs m))) := fun m hm => if_pos hm
  unfold cfg_sorted_string.f slices_Clone_string_string.f slices_Sort_string_string.f
  rw [if_pos (by omega)]
  simp only [Option.bind_some]
  rw [if_pos (by omega)]
  simp only [Option.bind_some]
  rw [h0 _ (by rw [unstrs_length, List.length_mergeSort, strs_length]; omega)]
  simp only [Option.bind_some]
  rw [strs_unstrs]; rfl
theorem mem_strs {l : List ByteArray} {x : ByteArray} : x.data.toList ∈ strs l ↔ x ∈ l := by
  unfold strs
  rw [List.mem_map]
  constructor
  · rintro ⟨y, hy, e⟩
    have : y = x := by
      cases y; cases x
      simp only [ByteArray.mk.injEq]
      exact Array.toList_inj.1 e
    exact this ▸ hy
  · exact fun h => ⟨x, h, rfl⟩
theorem mem_unstrs {s : List (List UInt8)} {x : ByteArray} : x ∈ unstrs s ↔ x.data.toList ∈ s := by
  rw [← mem_strs, strs_unstrs]
theorem mem_sortedP {l : List ByteArray} {x : ByteArray} : x ∈ sortedP l ↔ x ∈ l := by
  unfold sortedP
  rw [mem_unstrs, mem_compact, List.mem_mergeSort, mem_strs]
theorem sortedP_len_le (l : List ByteArray) : (sortedP l).length ≤ l.length := by
  unfold sortedP
  rw [unstrs_length]
  have := Lib.compact_length_le ((strs l).mergeSort fun x y => decide (x ≤ y))
  rwa [List.length_mergeSort, strs_length] at this
def defN (st : S38) : List ByteArray := if 1 ≤ st.f0 ∧ st.f0 ≤ 5 then [st.f1] else []
def usesP (st : S38) : List ByteArray :=
  if st.f0 = 2 then sortedP [st.f2, st.f3] else if st.f0 = 3 ∨ st.f0 = 5 ∨ st.f0 = 6 ∨ st.f0 = 7 then sortedP [st.f2] else []
theorem usesP_len (st : S38) : (usesP st).length ≤ 2 := by
  unfold usesP
  split
  · exact sortedP_len_le _
  · split
    · exact Nat.le_trans (sortedP_len_le _) (by simp)
    · simp
theorem uses_f (st : S38) : cfg_Uses.f st.f0 st.f1 st.f2 st.f3 st.f4 st.f5 st.f6 st.f7 = some (usesP st) := by
  unfold cfg_Uses.f usesP
  rw [sorted_f (by simp), sorted_f (by simp)]
  simp only [Option.bind_some]
  split
  · rfl
  · repeat' split
    all_goals first | rfl | omega
theorem def_f (st : S38) : cfg_Def.f st.f0 st.f1 st.f2 st.f3 st.f4 st.f5 st.f6 st.f7 = some (if 1 ≤ st.f0 ∧ st.f0 ≤ 5 then (st.f1, true) else (⟨#[]⟩, false)) := by
  by_cases h : 1 ≤ st.f0 ∧ st.f0 ≤ 5
  · rw [def_yes (by unfold defK; omega), if_pos h]
  · rw [def_no (by unfold defK; omega), if_neg h]
def rawN (l : List S38) : List ByteArray := l.flatMap fun st => defN st ++ usesP st
theorem rawN_drop {l : List S38} {i : Nat} (h : i < l.length) : rawN (l.drop i) = defN l[i] ++ usesP l[i] ++ rawN (l.drop (i + 1)) := by
  rw [List.drop_eq_getElem_cons h]; unfold rawN; rw [List.flatMap_cons]
theorem names_l0 (l : List S38) (hl : l.length * 96 ≤ 140737488351232) : ∀ (d k i : Nat) (acc : List ByteArray), i + d = l.length → d < k → acc.length ≤ 3 * i →
    cfg_Names.l0 k acc l (l.length : Int) (i : Int) = some (sortedP (acc ++ rawN (l.drop i)))
  | 0, k, i, acc, hi, hk, ha => by
    obtain ⟨k, rfl⟩ : ∃ m, k = m + 1 := ⟨k - 1, by omega⟩
    simp only [cfg_Names.l0]
    rw [if_neg (by omega), sorted_f (by omega), List.drop_of_length_le (by omega)]
    simp [rawN]
  | d + 1, k, i, acc, hi, hk, ha => by
    obtain ⟨k, rfl⟩ : ∃ m, k = m + 1 := ⟨k - 1, by omega⟩
    have hlt : i < l.length := by omega
    have hrd : rd_T38 l (i : Int) = l[i] := by
      unfold rd_T38
      simp [List.getD_eq_getElem?_getD, List.getElem?_eq_getElem hlt]
    have hw : wrap64 ((i : Int) + 1) = ((i + 1 : Nat) : Int) := by unfold wrap64; omega
    have hu := usesP_len l[i]
    simp only [cfg_Names.l0]
    rw [if_pos (by omega), if_pos (by omega), if_pos (by omega), hrd, def_f, uses_f]
    simp only [Option.bind_some]
    rw [hw, rawN_drop hlt]
    by_cases h : 1 ≤ l[i].f0 ∧ l[i].f0 ≤ 5
    · rw [if_pos h]
      simp only [if_true]
      rw [if_pos (by omega), if_pos (by simp; omega), names_l0 l hl d k (i + 1) _ (by omega) (by omega) (by simp; omega)]
      rw [show defN l[i] = [l[i].f1] from if_pos h]; simp only [List.append_assoc]
    · rw [if_neg h]
      simp only [Bool.false_eq_true, if_false]
      rw [if_pos (by omega), names_l0 l hl d k (i + 1) _ (by omega) (by omega) (by simp; omega)]
      rw [show defN l[i] = [] from if_neg h]; simp only [List.append_assoc, List.nil_append]
def namesP (l : List S38) : List ByteArray := sortedP (rawN l)
theorem names_f (l : List S38) (hl : l.length * 96 ≤ 140737488351232) : cfg_Names.f (l.length + 2) l = some (namesP l) := by
  unfold cfg_Names.f
  have := names_l0 l hl l.length (l.length + 2) 0 [] (by omega) (by omega) (by simp)
  simpa [namesP] using this
theorem rawN_len : ∀ l : List S38, (rawN l).length ≤ 3 * l.length
  | [] => by simp [rawN]
  | st :: l => by
    have h := rawN_len l
    have h2 := usesP_len st
    have h3 : (defN st).length ≤ 1 := by unfold defN; split <;> simp
    simp only [rawN, List.flatMap_cons, List.length_append, List.length_cons] at h ⊢
    omega
theorem mem_namesP {l : List S38} {x : ByteArray} : x ∈ namesP l ↔ ∃ st ∈ l, x ∈ defN st ∨ x ∈ usesP st := by
  unfold namesP rawN
  rw [mem_sortedP, List.mem_flatMap]
  simp only [List.mem_append]

/-! ### a machine that has all names goes on -/
theorem rd38_mem {l : List S38} {n : Int} (h0 : 0 ≤ n) (h1 : n < (l.length : Int)) : rd_T38 l n ∈ l := by
  unfold rd_T38
  have h : n.toNat < l.length := by omega
  rw [List.getD_eq_getElem?_getD, List.getElem?_eq_getElem h]
  exact List.getElem_mem h
theorem isV_refl (x : S35) : isV x.f0 x = true := by unfold isV; simp
theorem find_some {vars : List S35} {x : ByteArray} (h : x ∈ vars.map (·.f0)) : ∃ y, vars.find? (isV x) = some y := by
  obtain ⟨v, hv, rfl⟩ := List.mem_map.1 h
  have : (vars.find? (isV v.f0)).isSome = true := by
    rw [List.find?_isSome]
    exact ⟨v, hv, isV_refl v⟩
  exact Option.isSome_iff_exists.1 this
theorem idx_some {vars : List S35} {x : ByteArray} (h : x ∈ vars.map (·.f0)) : 0 ≤ idxV vars x := by
  obtain ⟨y, hy⟩ := find_some h
  obtain ⟨i, _, e, _⟩ := idxV_find hy
  omega
theorem operated_some (a : ByteArray) (b c : Int) : ∃ r, interp_operated.f a b c = some r := by
  unfold interp_operated.f interp_bit.f
  repeat' split
  all_goals simp
theorem made_some {vars : List S35} {ins : List Int} {n : Int} {st : S38} (hk : 1 ≤ st.f0 ∧ st.f0 ≤ 5) (hu : ∀ x ∈ usesP st, x ∈ vars.map (·.f0)) :
    ∃ p, madeO vars ins n st = some p ∧ p.1.f0 = st.f1 := by
  unfold madeO
  by_cases c1 : st.f0 = 1
  · rw [if_pos c1]; exact ⟨_, rfl, rfl⟩
  by_cases c4 : st.f0 = 4
  · rw [if_neg c1, if_pos c4]; exact ⟨_, rfl, rfl⟩
  have h2 : ∃ y, vars.find? (isV st.f2) = some y := by
    refine find_some (hu _ ?_)
    unfold usesP
    by_cases c2 : st.f0 = 2
    · rw [if_pos c2, mem_sortedP]; simp
    · rw [if_neg c2, if_pos (by omega), mem_sortedP]; simp
  obtain ⟨y, hy⟩ := h2
  rw [if_neg c1, if_neg c4, hy]
  by_cases c5 : st.f0 = 5
  · rw [if_pos c5]; exact ⟨_, rfl, rfl⟩
  by_cases c3 : st.f0 = 3
  · rw [if_neg c5, if_pos c3]; exact ⟨_, rfl, rfl⟩
  have c2 : st.f0 = 2 := by omega
  have h3 : ∃ z, vars.find? (isV st.f3) = some z := by
    refine find_some (hu _ ?_)
    unfold usesP
    rw [if_pos c2, mem_sortedP]; simp
  obtain ⟨z, hz⟩ := h3
  obtain ⟨r, hr⟩ := operated_some st.f4 y.f1 z.f1
  rw [if_neg c5, if_neg c3, if_pos c2, hz]
  simp only [Option.bind_some, hr, Option.map_some]
  exact ⟨_, rfl, rfl⟩
theorem isV_eq (name : ByteArray) (x : S35) : isV name x = true ↔ x.f0 = name := by
  unfold isV
  rw [beq_iff_eq, ByteArray.toList_eq, ByteArray.toList_eq]
  constructor
  · intro h
    exact ByteArray.ext (Array.toList_inj.1 h)
  · intro h; rw [h]
theorem idx_name {vars : List S35} {x : ByteArray} {i : Nat} (hi : i < vars.length) (h : idxV vars x = (i : Int)) : (vars[i]).f0 = x := by
  unfold idxV at h
  cases e : vars.findIdx? (isV x) with
  | none => rw [e] at h; simp at h
  | some j =>
    rw [e] at h
    have : j = i := by simp at h; omega
    subst this
    rw [List.findIdx?_eq_some_iff_getElem] at e
    exact (isV_eq _ _).1 e.2.1
theorem set_names {vars : List S35} {x : ByteArray} {i : Nat} (hi : i < vars.length) (h : idxV vars x = (i : Int)) {v : S35} (hv : v.f0 = x) : (vars.set i v).map (·.f0) = vars.map (·.f0) := by
  rw [List.map_set, hv]
  apply List.ext_getElem
  · simp
  · intro j h1 h2
    rw [List.getElem_set]
    split
    · subst_vars
      simp [idx_name hi h]
    · rfl
/-- What a flow's machine has: a variable for each name, in the names' order. -/
def Has (l : List S38) (vars : List S35) : Prop := vars.map (·.f0) = namesP l
theorem has_mem {l : List S38} {vars : List S35} (h : Has l vars) {n : Int} (h0 : 0 ≤ n) (h1 : n < (l.length : Int)) {x : ByteArray} (hx : x ∈ defN (rd_T38 l n) ∨ x ∈ usesP (rd_T38 l n)) : x ∈ vars.map (·.f0) := by
  rw [h, mem_namesP]
  exact ⟨_, rd38_mem h0 h1, hx⟩
theorem step_some {l : List S38} {vars : List S35} (h : Has l vars) (ins : List Int) (ora : List Bool) {n : Int} (h0 : 0 ≤ n) (h1 : n < (l.length : Int)) :
    ∃ m vars' ins' ora', stepO l vars ins ora n = some (m, vars', ins', ora') ∧ Has l vars' := by
  unfold stepO
  by_cases c : 1 ≤ (rd_T38 l n).f0 ∧ (rd_T38 l n).f0 ≤ 5
  · rw [if_pos c]
    obtain ⟨p, hp, hpn⟩ := made_some (vars := vars) (ins := ins) (n := n) c (fun x hx => has_mem h h0 h1 (.inr hx))
    have hx : (rd_T38 l n).f1 ∈ vars.map (·.f0) := has_mem h h0 h1 (.inl (by unfold defN; rw [if_pos c]; simp))
    have hi := idx_some hx
    obtain ⟨i, hil, hie⟩ := idxV_lt hi
    rw [hp]
    simp only [Option.bind_some]
    rw [if_pos hi]
    refine ⟨_, _, _, _, rfl, ?_⟩
    rw [hie, Int.toNat_natCast]
    unfold Has
    rw [set_names hil hie hpn]
    exact h
  · rw [if_neg c]
    by_cases c7 : (rd_T38 l n).f0 = 7
    · rw [if_pos c7]
      obtain ⟨y, hy⟩ := find_some (vars := vars) (x := (rd_T38 l n).f2) (has_mem h h0 h1 (.inr (by unfold usesP; rw [if_neg (by omega), if_pos (by omega), mem_sortedP]; simp)))
      rw [hy]
      exact ⟨_, _, _, _, rfl, h⟩
    · rw [if_neg c7]
      repeat' split
      all_goals exact ⟨_, _, _, _, rfl, h⟩
theorem run_some {l : List S38} {most : Int} : ∀ (k : Nat) (n : Int) (vars : List S35) (ins : List Int) (ora : List Bool) (out : List S33), Has l vars → min most 1000 ≤ (out.length : Int) + k → ∃ r, runO (k + 1) l most n vars ins ora out = some r
  | 0, n, vars, ins, ora, out, h, hk => by
    simp only [runO]
    rw [if_neg (by omega)]
    exact ⟨_, rfl⟩
  | k + 1, n, vars, ins, ora, out, h, hk => by
    rw [runO]
    split
    · rename_i c
      obtain ⟨m, vars', ins', ora', hs, h'⟩ := step_some h ins ora c.1 c.2.1
      rw [hs]
      exact run_some k m vars' ins' ora' _ h' (by simp; omega)
    · exact ⟨_, rfl⟩
theorem start_has (l : List S38) : Has l ((namesP l).map startV) := by
  unfold Has
  rw [List.map_map]
  simp [Function.comp_def, startV]
theorem run_f {l : List S38} (hl : l.length ≤ 300000) (ins : List Int) (ora : List Bool) (most : Int) : interp_Run.f l ins ora most = runO 1002 l most 0 ((namesP l).map startV) ins ora [] := by
  unfold interp_Run.f
  rw [names_f l (by omega)]
  simp only [Option.bind_some]
  rw [if_pos]
  have := sortedP_len_le (rawN l)
  have := rawN_len l
  unfold namesP
  omega
/-- How a run ends. -/
theorem run_end {l : List S38} {most : Int} : ∀ (k : Nat) (n : Int) (vars : List S35) (ins : List Int) (ora : List Bool) (out r : List S33), runO k l most n vars ins ora out = some r →
    out.length ≤ r.length ∧ ((r.length : Int) ≤ out.length ∨ (r.length : Int) ≤ min most 1000) ∧
    (min most 1000 ≤ (r.length : Int) ∨ (r = out ∧ ¬ (0 ≤ n ∧ n < (l.length : Int))) ∨
      ∃ (at_ : Int) (vars1 : List S35) (ins1 : List Int) (ora1 : List Bool) (m : Int) (p : List S35 × List Int × List Bool), r.getLast? = some ⟨at_, vars1⟩ ∧ 0 ≤ at_ ∧ at_ < (l.length : Int) ∧ stepO l vars1 ins1 ora1 at_ = some (m, p) ∧ ¬ (0 ≤ m ∧ m < (l.length : Int)))
  | 0, n, vars, ins, ora, out, r, h => by simp [runO] at h
  | k + 1, n, vars, ins, ora, out, r, h => by
    simp only [runO] at h
    split at h
    · rename_i c
      obtain ⟨p, hp, h⟩ := Option.bind_eq_some_iff.mp h
      obtain ⟨a, b, e⟩ := run_end k _ _ _ _ _ _ h
      simp only [List.length_append, List.length_singleton] at a b
      refine ⟨by omega, by omega, ?_⟩
      rcases e with e | ⟨rfl, e⟩ | e
      · exact .inl e
      · refine .inr (.inr ⟨n, vars, ins, ora, p.1, p.2, by simp, c.1, c.2.1, hp, e⟩)
      · exact .inr (.inr e)
    · rename_i c
      cases h
      refine ⟨Nat.le_refl _, by omega, ?_⟩
      by_cases c1 : 0 ≤ n ∧ n < (l.length : Int)
      · exact .inl (by omega)
      · exact .inr (.inl ⟨rfl, c1⟩)
end Go.Proofs.Ytmacollhnnachaa.Pr
