/- The walk of InterpEnds: whatever the script, it returns true. -/
import Derived.Test.YtmacollhnnachaaRead
import Derived.Test.YtmacollhnnachaaPShown
import Derived.Test.YtmacollhnnachaaPEnds
namespace Go.Proofs.Ytmacollhnnachaa.Pr
open Go.RowKit Go.Proofs.YtmacollhnnachaaW.PrintWords Go.Proofs.YtmacollhnnachaaW.PrintLast Go.Proofs.YtmacollhnnachaaW.PrintMore
theorem InterpEnds.walk (w : World) (x : S26) (cs : Array Value) (hx : k26.K w x cs.toList) (_ : x.f0.length * 96 ≤ 140737488351232 ∧ x.f1.length * 8 ≤ 140737488351232) :
    Calls Try.prog 4 #[.agg cs] w fun e w' => e = .returned (.bool true) ∧ Below w.heap.size w w' := by
  obtain ⟨A0, c0, A1, c1, A2, c2, e, h0, l0, h1, l1, h2, l2⟩ := k26_open hx
  obtain rfl : cs = #[.slice A0 x.f0.length c0, .slice A1 x.f1.length c1, .slice A2 x.f2.length c2, .int .i64 x.f3] := Array.toList_inj.1 e
  obtain ⟨k, hk⟩ := InterpEnds.pure shown_true x.f0 x.f1 x.f2 x.f3
  exact lambrequinlaw22_InterpEnds.calls k A0 c0 x.f0 A1 c1 x.f1 A2 c2 x.f2 x.f3 true w h0 l0 h1 l1 h2 l2 hk
end Go.Proofs.Ytmacollhnnachaa.Pr
