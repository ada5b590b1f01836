/- Texts of the seat, without what this claim does not use. -/
import Derived.Test.YtngmdccheaidkaaTF
import Derived.Test.YtngmdccheaidkaaTShelf
import Derived.Sort.OwnSorted
import Derived.Lib.OwnBridge
import Derived.Lib.RowBridge
import Derived.Lib.Hide
/- slices.Reverse at ints, as a contract over rows of ints. -/
namespace Go.Proofs.Ytngmdccheaidkaa.Pr
open Go.RowKit Go.Proofs.YtngmdccheaidkaaW.PrintWords Go.Proofs.YtngmdccheaidkaaW.PrintLast Go.Proofs.YtngmdccheaidkaaW.PrintMore
open Go.Lib Go.Sort
theorem kept_putRow {α : Type} [Inhabited α] {enc : α → Value} {w : World} {g q : Nat} {d : Array α} {S : Nat → Prop} (hg : S g) : Kept w (putRow enc (Sort.ahead w q) g 0 d) S :=
  ⟨by simp [putRow, mapBlock, Sort.ahead], fun i hi hn => by
    have : g ≠ i := fun e => hn (e ▸ hg)
    simp [putRow, mapBlock, Sort.ahead, Array.getElem?_modify, this]⟩
def slices_Reverse_int_int.f (l : List Int) : Option (List Int) := if l.length < 4611686018427387904 then some l.reverse else none
theorem slices_Reverse_int_int.calls (P0_ : Nat → Prop) (u9000_ : Value) (l0 r : List Int) (w0 w : World) (hB : Below w0.heap.size w0 w) (ho0 : Kd.R (Kd.int .i64) 3 w w0.heap.size P0_ u9000_ l0) (h : slices_Reverse_int_int.f l0 = some r) :
  Calls Try.prog 48 #[u9000_] w fun e w' => e = .returned (.tuple #[]) ∧ Kd.R (Kd.int .i64) 3 w' w0.heap.size (fun k_ => (P0_ k_ ∨ w.heap.size ≤ k_)) u9000_ r ∧ Below w0.heap.size w0 w' ∧ Kept w w' (fun k_ => P0_ k_) := by
  by_cases hlim : l0.length < 4611686018427387904
  case neg => unfold slices_Reverse_int_int.f at h; rw [if_neg hlim] at h; cases h
  unfold slices_Reverse_int_int.f at h
  rw [if_pos hlim] at h
  obtain rfl := Option.some.inj h
  have ho := Kd.own_of_R ho0
  by_cases hu : u9000_ = .slice none 0 0
  · subst hu
    obtain ⟨A, c, e⟩ := Kd.R_slice ho0
    injection e with e1 e2 e3
    have hl : l0 = [] := List.length_eq_zero_iff.mp e2.symm
    subst hl
    refine (Try.slices_Reverse_int_empty none 0 w).mono ?_
    rintro e w' ⟨rfl, rfl⟩
    exact ⟨rfl, Kd.R_mono (by simpa using ho0) (fun k hk => .inl hk), hB, Kept.refl _ _⟩
  · obtain ⟨g, cap, rfl, hb, hg, hnc, hcm, hlen, hH⟩ := holds_of_ownsRow ho hu
    have hP : P0_ g := ho0.1 g rfl
    refine (Try.slices_Reverse_int g 0 cap l0 w hH (by omega)).mono ?_
    rintro e w' ⟨rfl, q, rfl⟩
    have hrow := ownsRow_putRow (q := q) (k := l0.length) (ys := l0.reverse) ho (by simp) (Nat.le_refl _)
    rw [List.take_of_length_le (by simp)] at hrow
    have hrow2 : (putRow (Value.int .i64) (Sort.ahead w q) g 0 l0.reverse.toArray).ownsRow w0.heap.size 3 1 (.slice (some ⟨g, 0, none⟩) l0.length cap) l0.reverse.length (encs (Value.int .i64) l0.reverse) := by rw [List.length_reverse]; exact hrow
    exact ⟨rfl, Kd.R_of_own hrow2 (fun k hk => .inl (by cases hk; exact hP)), below_putRow hB hb, kept_putRow hP⟩
end Go.Proofs.Ytngmdccheaidkaa.Pr
