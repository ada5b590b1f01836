/- Texts of the seat, without what this claim does not use. -/
import Derived.Laws.Strings
/- Comparisons of strings, each as one Bool of bytesLess, for the walk. -/
namespace Go.Proofs.Ytngmdccheaidkaa.X
theorem less_tri : ∀ a b : List UInt8, (!(Op.bytesLess a b || a == b)) = Op.bytesLess b a
  | [], [] => rfl
  | [], _ :: _ => rfl
  | _ :: _, [] => rfl
  | a :: x, b :: y => by
    have ih := less_tri x y
    have e1 : Op.bytesLess (a :: x) (b :: y) = (decide (a < b) || (a == b && Op.bytesLess x y)) := rfl
    have e2 : Op.bytesLess (b :: y) (a :: x) = (decide (b < a) || (b == a && Op.bytesLess y x)) := rfl
    rw [e1, e2, ← ih]
    by_cases h : a = b
    · subst h
      simp [UInt8.lt_irrefl]
    · have h' : ¬ b = a := fun e => h e.symm
      have hlt : a < b ∨ b < a := by
        rcases UInt8.lt_or_lt_of_ne h with k | k
        · exact .inl k
        · exact .inr k
      rcases hlt with k | k
      · have : ¬ b < a := fun q => UInt8.lt_asymm k q
        simp [h', k, this]
      · have : ¬ a < b := fun q => UInt8.lt_asymm k q
        simp [h, k, this]
theorem gtr (t : TypeId) (a b : ByteArray) : binOp .gtr t (.string a) (.string b) = pure (.bool (Op.bytesLess b.toList a.toList)) := by
  rw [← less_tri a.toList b.toList]
  simp [binOp, Op.stringOp]
theorem leq (t : TypeId) (a b : ByteArray) : binOp .leq t (.string a) (.string b) = pure (.bool (!(Op.bytesLess b.toList a.toList))) := by
  rw [← less_tri a.toList b.toList, Bool.not_not]
  simp [binOp, Op.stringOp]
theorem geq (t : TypeId) (a b : ByteArray) : binOp .geq t (.string a) (.string b) = pure (.bool (!(Op.bytesLess a.toList b.toList))) := by
  simp [binOp, Op.stringOp]
attribute [go_sem] gtr leq geq
end Go.Proofs.Ytngmdccheaidkaa.X
