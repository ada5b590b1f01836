/- slices.Sort and slices.Compact at strings. -/
import Derived.Test.YtmacollhnnachaaF
import Derived.Test.YtmacollhnnachaaShelf
import Derived.Sort.OwnSorted
import Derived.Lib.OwnBridge
import Derived.Lib.RowBridge
import Derived.Sort.OwnSortedInts
namespace Go.Proofs.Ytmacollhnnachaa.Pr
open Go.RowKit Go.Proofs.YtmacollhnnachaaW.PrintWords Go.Proofs.YtmacollhnnachaaW.PrintLast Go.Proofs.YtmacollhnnachaaW.PrintMore
open Go.Lib Go.Sort

def strs (l : List ByteArray) : List (List UInt8) := l.map (·.data.toList)
def unstrs (s : List (List UInt8)) : List ByteArray := s.map fun b => ⟨b.toArray⟩
theorem strs_unstrs (s : List (List UInt8)) : strs (unstrs s) = s := by
  unfold strs unstrs
  rw [List.map_map]
  have e : ((fun x : ByteArray => x.data.toList) ∘ fun b : List UInt8 => (⟨b.toArray⟩ : ByteArray)) = id := by funext b; simp
  rw [e, List.map_id]
theorem strs_length (l : List ByteArray) : (strs l).length = l.length := by simp [strs]
theorem unstrs_length (l : List (List UInt8)) : (unstrs l).length = l.length := by simp [unstrs]
theorem strs_enc (l : List ByteArray) : (strs l).map Proofs.encStr = encs Value.string l := map_encStr l
theorem unstrs_enc (s : List (List UInt8)) : encs Value.string (unstrs s) = s.map Proofs.encStr := by rw [← strs_enc, strs_unstrs]

def slices_Sort_string_string.f (l : List ByteArray) : Option (List ByteArray) := if l.length < 4611686018427387904 then some (unstrs ((strs l).mergeSort fun x y => decide (x ≤ y))) else none
theorem slices_Sort_string_string.calls (P0_ : Nat → Prop) (u9000_ : Value) (l0 r : List ByteArray) (w0 w : World) (hB : Below w0.heap.size w0 w) (ho0 : Kd.R Kd.string 9 w w0.heap.size P0_ u9000_ l0) (h : slices_Sort_string_string.f l0 = some r) :
    Calls Try.prog 82 #[u9000_] w fun e w' => e = .returned (.tuple #[]) ∧ Kd.R Kd.string 9 w' w0.heap.size (fun k_ => (P0_ k_ ∨ w.heap.size ≤ k_)) u9000_ r ∧ Below w0.heap.size w0 w' ∧ Kept w w' (fun k_ => P0_ k_) := by
  by_cases hlim : l0.length < 4611686018427387904
  case neg => unfold slices_Sort_string_string.f at h; rw [if_neg hlim] at h; cases h
  unfold slices_Sort_string_string.f at h
  rw [if_pos hlim] at h
  obtain rfl := Option.some.inj h
  have ho := Kd.own_of_R ho0
  have ho' := ho
  rw [← strs_enc] at ho'
  by_cases hu : u9000_ = .slice none 0 0
  · subst hu
    obtain ⟨A, c, e⟩ := Kd.R_slice ho0
    injection e with e1 e2 e3
    have hl : l0 = [] := List.length_eq_zero_iff.mp e2.symm
    subst hl
    refine (Try.slices_Sort_string_none none 0 w).mono ?_
    rintro e w' ⟨rfl, rfl⟩
    exact ⟨rfl, Kd.R_mono (by simpa [strs, unstrs] using ho0) (fun k hk => .inl hk), hB, Kept.refl _ _⟩
  · obtain ⟨g, cap, rfl, hb, hg, hnc, hcm, hlen, hH⟩ := holds_of_ownsRow ho' hu
    rcases ho.2 with ⟨e0, _⟩ | ⟨g', cap', cur, e0, hb', hh, h1, h2, h3, h4⟩
    · exact absurd e0 hu
    injection e0 with e1 _ e3
    injection e1 with e1
    injection e1 with e1
    subst e1 e3
    have hsl := strs_length l0
    rw [← hsl]
    refine (Try.slices_Sort_string g 0 cap (strs l0) w hH hg (by rw [hsl]; exact hlim)).mono ?_
    rintro e w' ⟨rfl, n, os, rfl⟩
    have hg := grownBy_sorted (w := w) (g := g) (n := n) (os := os) ((strs l0).mergeSort fun x y => decide (x ≤ y)).toArray
    refine ⟨rfl, Kd.R_of_own ?_ (fun k hk => .inl (ho0.1 k hk)), hB.grown hg hB.size (fun k hk => by cases hk; exact hb), Kept.of_grown hg (Kept.refl w _) (fun k hk => .inl (ho0.1 k (by cases hk; rfl)))⟩
    rw [unstrs_enc, unstrs_length, List.length_mergeSort]
    exact ownsRow_sorted (by simp) hb hh (by omega) h2 h3
def slices_Sort_int_int.f (l : List Int) : Option (List Int) := if l.length < 4611686018427387904 then some (l.mergeSort fun x y => decide (x ≤ y)) else none
theorem slices_Sort_int_int.calls (P0_ : Nat → Prop) (u9000_ : Value) (l0 r : List Int) (w0 w : World) (hB : Below w0.heap.size w0 w) (ho0 : Kd.R (Kd.int .i64) 3 w w0.heap.size P0_ u9000_ l0) (h : slices_Sort_int_int.f l0 = some r) :
    Calls Try.prog 73 #[u9000_] w fun e w' => e = .returned (.tuple #[]) ∧ Kd.R (Kd.int .i64) 3 w' w0.heap.size (fun k_ => (P0_ k_ ∨ w.heap.size ≤ k_)) u9000_ r ∧ Below w0.heap.size w0 w' ∧ Kept w w' (fun k_ => P0_ k_) := by
  by_cases hlim : l0.length < 4611686018427387904
  case neg => unfold slices_Sort_int_int.f at h; rw [if_neg hlim] at h; cases h
  unfold slices_Sort_int_int.f at h
  rw [if_pos hlim] at h
  obtain rfl := Option.some.inj h
  have ho := Kd.own_of_R ho0
  have ho' : w.ownsRow w0.heap.size 3 1 u9000_ l0.length (l0.map (Value.int .i64)) := ho
  by_cases hu : u9000_ = .slice none 0 0
  · subst hu
    obtain ⟨A, c, e⟩ := Kd.R_slice ho0
    injection e with e1 e2 e3
    have hl : l0 = [] := List.length_eq_zero_iff.mp e2.symm
    subst hl
    refine (Try.slices_Sort_int_none none 0 w).mono ?_
    rintro e w' ⟨rfl, rfl⟩
    exact ⟨rfl, Kd.R_mono (by simpa using ho0) (fun k hk => .inl hk), hB, Kept.refl _ _⟩
  · obtain ⟨g, cap, rfl, hb, hg, hnc, hcm, hlen, hH⟩ := holds_of_ownsRow ho' hu
    rcases ho.2 with ⟨e0, _⟩ | ⟨g', cap', cur, e0, hb', hh, h1, h2, h3, h4⟩
    · exact absurd e0 hu
    injection e0 with e1 _ e3
    injection e1 with e1
    injection e1 with e1
    subst e1 e3
    refine (Try.slices_Sort_int g 0 cap l0 w hH hg hlim).mono ?_
    rintro e w' ⟨rfl, n, os, rfl⟩
    have hg := grownBy_sortedI (w := w) (g := g) (n := n) (os := os) (l0.mergeSort fun x y => decide (x ≤ y)).toArray
    refine ⟨rfl, Kd.R_of_own ?_ (fun k hk => .inl (ho0.1 k hk)), hB.grown hg hB.size (fun k hk => by cases hk; exact hb), Kept.of_grown hg (Kept.refl w _) (fun k hk => .inl (ho0.1 k (by cases hk; rfl)))⟩
    rw [List.length_mergeSort]
    exact ownsRow_sortedI (by simp) hb hh (by omega) h2 h3

theorem compact_nil {α : Type} [Inhabited α] [DecidableEq α] : Lib.compact ([] : List α) = [] := List.length_eq_zero_iff.mp (Nat.le_zero.mp (Lib.compact_length_le []))
theorem kept_putRow {α : Type} [Inhabited α] {enc : α → Value} {w : World} {g q : Nat} {d : Array α} {S : Nat → Prop} (hg : S g) : Kept w (putRow enc (Sort.ahead w q) g 0 d) S :=
  ⟨by simp [putRow, mapBlock, Sort.ahead], fun i hi hn => by
    have : g ≠ i := fun e => hn (e ▸ hg)
    simp [putRow, mapBlock, Sort.ahead, Array.getElem?_modify, this]⟩
def slices_Compact_string_string.f (l : List ByteArray) : Option (List ByteArray) := if l.length < 4611686018427387904 then some (unstrs (Lib.compact (strs l))) else none
theorem slices_Compact_string_string.calls (P0_ : Nat → Prop) (u9000_ : Value) (l0 r : List ByteArray) (w0 w : World) (hB : Below w0.heap.size w0 w) (ho0 : Kd.R Kd.string 9 w w0.heap.size P0_ u9000_ l0) (h : slices_Compact_string_string.f l0 = some r) :
    Calls Try.prog 83 #[u9000_] w fun e w' => ∃ v0_ : Value, e = .returned v0_ ∧ Kd.R Kd.string 9 w' w0.heap.size (fun k_ => (P0_ k_ ∨ w.heap.size ≤ k_)) v0_ r ∧ Below w0.heap.size w0 w' ∧ Kept w w' (fun k_ => P0_ k_) := by
  by_cases hlim : l0.length < 4611686018427387904
  case neg => unfold slices_Compact_string_string.f at h; rw [if_neg hlim] at h; cases h
  unfold slices_Compact_string_string.f at h
  rw [if_pos hlim] at h
  obtain rfl := Option.some.inj h
  have ho := Kd.own_of_R ho0
  have ho' := ho
  rw [← strs_enc] at ho'
  by_cases hu : u9000_ = .slice none 0 0
  · subst hu
    obtain ⟨A, c, e⟩ := Kd.R_slice ho0
    injection e with e1 e2 e3
    have hl : l0 = [] := List.length_eq_zero_iff.mp e2.symm
    subst hl
    refine (Try.slices_Compact_string_empty none 0 w).mono ?_
    rintro e w' ⟨rfl, rfl⟩
    exact ⟨_, rfl, Kd.R_mono (by rw [show strs [] = [] from rfl, compact_nil]; exact ho0) (fun k hk => .inl hk), hB, Kept.refl _ _⟩
  · obtain ⟨g, cap, rfl, hb, hg, hnc, hcm, hlen, hH⟩ := holds_of_ownsRow ho' hu
    have hsl := strs_length l0
    have hcl := Lib.compact_length_le (strs l0)
    have hP : P0_ g := ho0.1 g rfl
    rw [← hsl] at ho' ⊢
    refine (Try.slices_Compact_string g 0 cap (strs l0) w hH (by omega) (by omega)).mono ?_
    rintro e w' ⟨rfl, q, rfl⟩
    have hrow := ownsRow_putRow (q := q) (k := (Lib.compact (strs l0)).length) (ys := Lib.compact (strs l0) ++ List.replicate ((strs l0).length - (Lib.compact (strs l0)).length) []) ho' (by simp; omega) hcl
    rw [List.take_left] at hrow
    exact ⟨_, rfl, Kd.R_of_own (by rw [unstrs_enc, unstrs_length]; exact hrow) (fun k hk => .inl (by cases hk; exact hP)), below_putRow hB hb, kept_putRow hP⟩
def slices_Compact_int_int.f (l : List Int) : Option (List Int) := if l.length < 4611686018427387904 then some (Lib.compact l) else none
theorem slices_Compact_int_int.calls (P0_ : Nat → Prop) (u9000_ : Value) (l0 r : List Int) (w0 w : World) (hB : Below w0.heap.size w0 w) (ho0 : Kd.R (Kd.int .i64) 3 w w0.heap.size P0_ u9000_ l0) (h : slices_Compact_int_int.f l0 = some r) :
    Calls Try.prog 74 #[u9000_] w fun e w' => ∃ v0_ : Value, e = .returned v0_ ∧ Kd.R (Kd.int .i64) 3 w' w0.heap.size (fun k_ => (P0_ k_ ∨ w.heap.size ≤ k_)) v0_ r ∧ Below w0.heap.size w0 w' ∧ Kept w w' (fun k_ => P0_ k_) := by
  by_cases hlim : l0.length < 4611686018427387904
  case neg => unfold slices_Compact_int_int.f at h; rw [if_neg hlim] at h; cases h
  unfold slices_Compact_int_int.f at h
  rw [if_pos hlim] at h
  obtain rfl := Option.some.inj h
  have ho := Kd.own_of_R ho0
  have ho' : w.ownsRow w0.heap.size 3 1 u9000_ l0.length (l0.map (Value.int .i64)) := ho
  by_cases hu : u9000_ = .slice none 0 0
  · subst hu
    obtain ⟨A, c, e⟩ := Kd.R_slice ho0
    injection e with e1 e2 e3
    have hl : l0 = [] := List.length_eq_zero_iff.mp e2.symm
    subst hl
    refine (Try.slices_Compact_int_empty none 0 w).mono ?_
    rintro e w' ⟨rfl, rfl⟩
    exact ⟨_, rfl, Kd.R_mono (by rw [compact_nil]; exact ho0) (fun k hk => .inl hk), hB, Kept.refl _ _⟩
  · obtain ⟨g, cap, rfl, hb, hg, hnc, hcm, hlen, hH⟩ := holds_of_ownsRow ho' hu
    have hcl := Lib.compact_length_le l0
    have hP : P0_ g := ho0.1 g rfl
    refine (Try.slices_Compact_int g 0 cap l0 w hH (by omega) (by omega)).mono ?_
    rintro e w' ⟨rfl, q, rfl⟩
    have hrow := ownsRow_putRow (q := q) (k := (Lib.compact l0).length) (ys := Lib.compact l0 ++ List.replicate (l0.length - (Lib.compact l0).length) 0) ho' (by simp; omega) hcl
    rw [List.take_left] at hrow
    exact ⟨_, rfl, Kd.R_of_own (by exact hrow) (fun k hk => .inl (by cases hk; exact hP)), below_putRow hB hb, kept_putRow hP⟩
end Go.Proofs.Ytmacollhnnachaa.Pr
