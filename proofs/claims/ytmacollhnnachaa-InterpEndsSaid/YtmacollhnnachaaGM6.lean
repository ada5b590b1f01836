/- A statement done: what it gives, and where the flow goes on. -/
import Derived.Test.YtmacollhnnachaaGM3
namespace Go.Proofs.Ytmacollhnnachaa.Pr
open Go.RowKit Go.Proofs.YtmacollhnnachaaW.PrintWords Go.Proofs.YtmacollhnnachaaW.PrintLast Go.Proofs.YtmacollhnnachaaW.PrintMore
open Go.Lib

/-- What a statement gives to the name that it defines, and what is left of the inputs. -/
def madeO (vars : List S35) (ins : List Int) (n : Int) (st : S38) : Option (S35 × List Int) :=
  if st.f0 = 1 then some (⟨st.f1, st.f5, n, false⟩, ins)
  else if st.f0 = 4 then some (⟨st.f1, hdI ins, n, true⟩, ins.tail)
  else if st.f0 = 5 then (vars.find? (isV st.f2)).map fun y => (⟨st.f1, y.f1, n, false⟩, ins)
  else if st.f0 = 3 then (vars.find? (isV st.f2)).map fun y => (⟨st.f1, y.f1, n, y.f3⟩, ins)
  else if st.f0 = 2 then (vars.find? (isV st.f2)).bind fun y => (vars.find? (isV st.f3)).bind fun z => (interp_operated.f st.f4 y.f1 z.f1).map fun r => (⟨st.f1, r, n, y.f3 || z.f3⟩, ins)
  else none
theorem seg_take {α : Type} (l : List α) (i n : Nat) (a b c d : α) (h : i * 4 + 4 ≤ n * 4) (hn : n * 4 ≤ l.length) :
    ((((l.set (i * 4) a).set (i * 4 + 1) b).set (i * 4 + 2) c).set (i * 4 + 3) d).take (n * 4) = (l.take (n * 4)).take (i * 4) ++ [a, b, c, d] ++ (l.take (n * 4)).drop (i * 4 + [a, b, c, d].length) := by
  have hL : ((l.take (n * 4)).take (i * 4)).length = i * 4 := by simp; omega
  apply List.ext_getElem?
  intro j
  rcases Nat.lt_or_ge j (i * 4) with c0 | c0
  · rw [List.append_assoc, List.getElem?_append_left (by rw [hL]; exact c0), List.getElem?_take_of_lt (by omega), List.getElem?_take_of_lt c0, List.getElem?_take_of_lt (by omega), List.getElem?_set_ne (by omega), List.getElem?_set_ne (by omega), List.getElem?_set_ne (by omega), List.getElem?_set_ne (by omega)]
  · rcases Nat.lt_or_ge j (i * 4 + 4) with c1 | c1
    · rw [List.append_assoc, List.getElem?_append_right (by rw [hL]; exact c0), hL, List.getElem?_append_left (by simp; omega), List.getElem?_take_of_lt (by omega)]
      rcases (show j = i * 4 ∨ j = i * 4 + 1 ∨ j = i * 4 + 2 ∨ j = i * 4 + 3 by omega) with rfl | rfl | rfl | rfl
      · rw [List.getElem?_set_ne (by omega), List.getElem?_set_ne (by omega), List.getElem?_set_ne (by omega), List.getElem?_set_self (by omega)]; simp
      · rw [List.getElem?_set_ne (by omega), List.getElem?_set_ne (by omega), List.getElem?_set_self (by simp; omega)]; simp
      · rw [List.getElem?_set_ne (by omega), List.getElem?_set_self (by simp; omega)]; simp
      · rw [List.getElem?_set_self (by simp; omega)]; simp
    · rw [List.getElem?_append_right (by simp; omega)]
      simp only [List.length_append, hL, List.length_cons, List.length_nil, List.getElem?_drop]
      rw [show i * 4 + (0 + 1 + 1 + 1 + 1) + (j - (i * 4 + (0 + 1 + 1 + 1 + 1))) = j by omega, List.getElem?_take, List.getElem?_take, List.getElem?_set_ne (by omega), List.getElem?_set_ne (by omega), List.getElem?_set_ne (by omega), List.getElem?_set_ne (by omega)]
theorem R35_put {W : World} {base gv cap n : Nat} {ok : Nat → Prop} {vars : List S35} (h : Kd.R k35 35 W base ok (.slice (some ⟨gv, 0, none⟩) n cap) vars) (i : Nat) (hi : i < vars.length) (x : S35) :
    Kd.R k35 35 ((((W.setCell ⟨gv, i * 4, none⟩ (.string x.f0)).setCell ⟨gv, i * 4 + 1, none⟩ (.int .i64 x.f1)).setCell ⟨gv, i * 4 + 2, none⟩ (.int .i64 x.f2)).setCell ⟨gv, i * 4 + 3, none⟩ (.bool x.f3)) base ok (.slice (some ⟨gv, 0, none⟩) n cap) (vars.set i x) := by
  obtain ⟨h0, inner, ⟨hl, ho⟩, hr⟩ := h
  rcases ho with ⟨e, _⟩ | ⟨g, cap', cur, e, hb, hh, h1, h2, h3, h4⟩
  · cases e
  have e1 : g = gv := by injection e with e _ _; injection e with e; injection e with e; exact e.symm
  subst e1
  have e2 : cap' = cap ∧ n = vars.length := by injection e with _ e e'; exact ⟨e'.symm, e⟩
  obtain ⟨rfl, rfl⟩ := e2
  have hr2 := Kd.reps_set hr hi (show (k35.M _ base (fun k => ok k ∧ some k ≠ (Value.slice (some ⟨g, 0, none⟩) vars.length cap').ownBlock) x [.string x.f0, .int .i64 x.f1, .int .i64 x.f2, .bool x.f3]) from k35_mkM _ _ _ x) rfl
  have hsz : k35.sz = 4 := rfl
  refine ⟨h0, _, ⟨?_, .inr ⟨g, cap', _, ?_, hb, blk_set (blk_set (blk_set (blk_set hh _ _) _ _) _ _) _ _, by rw [List.length_set]; exact h1, h2, ?_, ?_⟩⟩, hr2.imp_ (fun _ _ hp => hp)⟩
  · rw [hr2.1]
  · rw [List.length_set]
  · simp only [Array.size_setIfInBounds]; exact h3
  · rw [List.length_set, ← h4]
    have hc : vars.length * 4 ≤ cur.toList.length := by
      have h3' : cur.size = cap' * 4 := h3
      have e5 : cur.toList.length = cur.size := by simp
      omega
    have := seg_take cur.toList i vars.length (Value.string x.f0) (.int .i64 x.f1) (.int .i64 x.f2) (.bool x.f3) (by omega) hc
    simp only [Array.toList_setIfInBounds]
    exact this
end Go.Proofs.Ytmacollhnnachaa.Pr
