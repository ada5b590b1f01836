/- The document's example, of lists and numbers alone. -/
import Derived.Test.YtmacollhnnachaaPInt
import Derived.Test.YtmacollhnnachaaF15
namespace Go.Proofs.Ytmacollhnnachaa.Pr
open Go.RowKit Go.Proofs.YtmacollhnnachaaW.PrintWords Go.Proofs.YtmacollhnnachaaW.PrintLast Go.Proofs.YtmacollhnnachaaW.PrintMore
def ltB (a b : ByteArray) : Prop := a.data.toList < b.data.toList
theorem ltB_irr (a : ByteArray) : ¬ ltB a a := List.lt_irrefl _
theorem ltB_tr (a b c : ByteArray) (h : ltB a b) (h' : ltB b c) : ltB a c := List.lt_trans h h'
theorem le_anti (a b : List UInt8) (h : a ≤ b) (h' : b ≤ a) : a = b := List.le_antisymm h h'
theorem lt_of_le_ne {a b : List UInt8} (h : a ≤ b) (hne : a ≠ b) : a < b := by
  rcases List.le_total b a with h' | h'
  · exact absurd (le_anti a b h h') hne
  · rcases Classical.em (a < b) with c | c
    · exact c
    · exact absurd (le_anti a b h (List.not_lt.1 c)) hne
theorem sortedP_rising (l : List ByteArray) : (sortedP l).Pairwise ltB := by
  have h0 : ((strs l).mergeSort fun x y => decide (x ≤ y)).Pairwise (fun a b : List UInt8 => a ≤ b) := by
    have := List.pairwise_mergeSort (le := fun x y : List UInt8 => decide (x ≤ y)) (fun a b c h h' => by simp at *; exact List.le_trans h h') (fun a b => by simp; exact List.le_total a b) (strs l)
    exact this.imp (fun h => by simpa using h)
  have h1 := compact_pairwise (fun a => List.le_refl a) le_anti _ h0
  unfold sortedP unstrs
  rw [List.pairwise_map]
  exact h1.imp (fun h => lt_of_le_ne h.1 h.2)
theorem sortedP_is {l m : List ByteArray} (hm : m.Pairwise ltB) (h : ∀ x, x ∈ l ↔ x ∈ m) : sortedP l = m :=
  rising_unique ltB_irr ltB_tr (sortedP_rising l) hm (fun x => by rw [mem_sortedP]; exact h x)
theorem sortedP_one (x : ByteArray) : sortedP [x] = [x] := sortedP_is (by simp) (fun _ => Iff.rfl)
theorem sortedP_twice (x : ByteArray) : sortedP [x, x] = [x] := sortedP_is (by simp) (fun _ => by simp)
def bX : ByteArray := ⟨#[120]⟩
def bE : ByteArray := ⟨#[]⟩
def shownL : List S38 := [⟨4, bX, bE, bE, bE, 0, 0, 0⟩, ⟨6, bE, bX, bE, bE, 0, 0, 0⟩, ⟨9, bE, bE, bE, bE, 0, 0, 0⟩]
theorem shown_names : namesP shownL = [bX] := by
  have h : rawN shownL = [bX, bX] := by
    simp [rawN, shownL, defN, usesP, sortedP_one]
  unfold namesP
  rw [h, sortedP_twice]
theorem shown_run : interp_Run.f shownL [7] [] 9 = some [⟨0, [⟨bX, 0, -1, false⟩]⟩, ⟨1, [⟨bX, 7, 0, true⟩]⟩, ⟨2, [⟨bX, 7, 0, true⟩]⟩] := by
  rw [run_f (by simp [shownL]), shown_names]
  have hx : ∀ a b c, isV bX ⟨bX, a, b, c⟩ = true := fun a b c => (isV_eq _ _).2 rfl
  have hf : ∀ a b c, idxV [⟨bX, a, b, c⟩] bX = 0 := fun a b c => by unfold idxV; simp [List.findIdx?_cons, hx]
  have key : ∀ k, runO (k + 1 + 1 + 1 + 1) shownL 9 0 ([bX].map startV) [7] [] [] = some [⟨0, [⟨bX, 0, -1, false⟩]⟩, ⟨1, [⟨bX, 7, 0, true⟩]⟩, ⟨2, [⟨bX, 7, 0, true⟩]⟩] := fun k => by
    have h9 : min (9 : Int) 1000 = 9 := by omega
    simp [runO, shownL, stepO, madeO, rd_T38, hf, startV, hdI, h9]
  exact key 998
theorem shown_true : lambrequinlaw22_shown.f = some true := by
  unfold lambrequinlaw22_shown.f
  have h : interp_Run.f ([(⟨4, (⟨#[120]⟩ : ByteArray), (⟨#[]⟩ : ByteArray), (⟨#[]⟩ : ByteArray), (⟨#[]⟩ : ByteArray), 0, 0, 0⟩ : S38), (⟨6, (⟨#[]⟩ : ByteArray), (⟨#[120]⟩ : ByteArray), (⟨#[]⟩ : ByteArray), (⟨#[]⟩ : ByteArray), 0, 0, 0⟩ : S38), (⟨9, (⟨#[]⟩ : ByteArray), (⟨#[]⟩ : ByteArray), (⟨#[]⟩ : ByteArray), (⟨#[]⟩ : ByteArray), 0, 0, 0⟩ : S38)] : List S38) [7] [] 9 = _ := shown_run
  rw [h]
  simp [rd_T33, rd_T35]
end Go.Proofs.Ytmacollhnnachaa.Pr
