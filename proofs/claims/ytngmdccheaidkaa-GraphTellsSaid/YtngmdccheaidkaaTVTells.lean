/- Texts of the seat, without what this claim does not use. -/
import Derived.Test.YtngmdccheaidkaaTRead
import Derived.Test.YtngmdccheaidkaaTPB
/- The walk of GraphTells: whatever comes in, it returns true. -/
namespace Go.Proofs.Ytngmdccheaidkaa.Pr
open Go.RowKit Go.Proofs.YtngmdccheaidkaaW.PrintWords Go.Proofs.YtngmdccheaidkaaW.PrintLast Go.Proofs.YtngmdccheaidkaaW.PrintMore
theorem GraphTells.walk (w : World) (a0 : Int) (_ : (Lit.int .i64 a0).wf = true) (A1 : Option Addr) (c1 : Nat) (x1 : List S27) (hc1 : Kd.C k27 w A1 x1.length x1) (hl1 : x1.length ≤ c1) (_ : x1.length * 16 ≤ 140737488351232 ∧ ∀ x ∈ x1, (Lit.int .i64 x.f0).wf = true ∧ (Lit.int .i64 x.f1).wf = true)
    (a2 : Int) (_ : (Lit.int .i64 a2).wf = true) (a3 : Int) (_ : (Lit.int .i64 a3).wf = true) :
    Calls Try.prog 4 #[.int .i64 a0, .slice A1 x1.length c1, .int .i64 a2, .int .i64 a3] w fun e w' => e = .returned (.bool true) ∧ Below w.heap.size w w' := by
  obtain ⟨k, hk⟩ := GraphTells.pure (n := a0) (l := x1) (a := a2) (b := a3)
  exact lambrequinlaw10_GraphTells.calls k a0 A1 c1 x1 a2 a3 true w hc1 hl1 hk
end Go.Proofs.Ytngmdccheaidkaa.Pr
