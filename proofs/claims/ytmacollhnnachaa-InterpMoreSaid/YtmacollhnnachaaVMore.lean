/- The walk of InterpMore: whatever the script, and the number, it returns true. -/
import Derived.Test.YtmacollhnnachaaRead
import Derived.Test.YtmacollhnnachaaPShown
import Derived.Test.YtmacollhnnachaaPMore
namespace Go.Proofs.Ytmacollhnnachaa.Pr
open Go.RowKit Go.Proofs.YtmacollhnnachaaW.PrintWords Go.Proofs.YtmacollhnnachaaW.PrintLast Go.Proofs.YtmacollhnnachaaW.PrintMore
theorem u8_in {n : Int} (h : (Lit.int .u8 n).wf = true) : 0 ≤ n ∧ n ≤ 255 := by
  simp only [Lit.wf, Bool.and_eq_true, decide_eq_true_eq] at h
  exact h
theorem InterpMore.walk (w : World) (x : S26) (cs : Array Value) (hx : k26.K w x cs.toList) (hf : x.f0.length * 96 ≤ 140737488351232 ∧ x.f1.length * 8 ≤ 140737488351232) (a1 : Int) (h1 : (Lit.int .u8 a1).wf = true) :
    Calls Try.prog 3 #[.agg cs, .int .u8 a1] w fun e w' => e = .returned (.bool true) ∧ Below w.heap.size w w' := by
  obtain ⟨A0, c0, A1, c1, A2, c2, e, h0, l0, hr1, l1, h2, l2⟩ := k26_open hx
  obtain rfl : cs = #[.slice A0 x.f0.length c0, .slice A1 x.f1.length c1, .slice A2 x.f2.length c2, .int .i64 x.f3] := Array.toList_inj.1 e
  obtain ⟨k, hk⟩ := InterpMore.pure shown_true x.f0 x.f1 x.f2 x.f3 a1 hf.2 (u8_in h1).1 (u8_in h1).2
  exact lambrequinlaw22_InterpMore.calls k A0 c0 x.f0 A1 c1 x.f1 A2 c2 x.f2 x.f3 a1 true w h0 l0 hr1 l1 h2 l2 hk
end Go.Proofs.Ytmacollhnnachaa.Pr
