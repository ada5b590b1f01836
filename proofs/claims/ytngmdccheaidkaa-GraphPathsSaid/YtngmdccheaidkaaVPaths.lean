/- The walk of GraphPaths: whatever comes in, it returns true. -/
import Derived.Test.YtngmdccheaidkaaRead
import Derived.Test.YtngmdccheaidkaaPPaths
namespace Go.Proofs.Ytngmdccheaidkaa.Pr
open Go.RowKit Go.Proofs.YtngmdccheaidkaaW.PrintWords Go.Proofs.YtngmdccheaidkaaW.PrintLast Go.Proofs.YtngmdccheaidkaaW.PrintMore
theorem GraphPaths.walk (w : World) (a0 : Int) (w0 : (Lit.int .u8 a0).wf = true) (A1 : Option Addr) (c1 : Nat) (x1 : List S45) (hc1 : Kd.C k45 w A1 x1.length x1) (hl1 : x1.length ≤ c1) (y1 : x1.length * 2 ≤ 140737488351232 ∧ ∀ x ∈ x1, (Lit.int .u8 x.f0).wf = true ∧ (Lit.int .u8 x.f1).wf = true)
    (a2 : Int) (w2 : (Lit.int .u8 a2).wf = true) (a3 : Int) (w3 : (Lit.int .u8 a3).wf = true) :
    Calls Try.prog 6 #[.int .u8 a0, .slice A1 x1.length c1, .int .u8 a2, .int .u8 a3] w fun e w' => e = .returned (.bool true) ∧ Below w.heap.size w w' := by
  obtain ⟨k, hk⟩ := GraphPaths.pure (u8_in w0) (u8s_in y1).1 (u8s_in y1).2 (u8_in w2) (u8_in w3)
  exact lambrequinlaw10_GraphPaths.calls k a0 A1 c1 x1 a2 a3 true w hc1 hl1 hk
end Go.Proofs.Ytngmdccheaidkaa.Pr
