/- The walk of GraphMore: whatever comes in, it returns true. -/
import Derived.Test.YtngmdccheaidkaaRead
import Derived.Test.YtngmdccheaidkaaPMore
namespace Go.Proofs.Ytngmdccheaidkaa.Pr
open Go.RowKit Go.Proofs.YtngmdccheaidkaaW.PrintWords Go.Proofs.YtngmdccheaidkaaW.PrintLast Go.Proofs.YtngmdccheaidkaaW.PrintMore
theorem okWide_array {P : Program} {w : World} {r : Reach} {base : Nat} {t : TypeId} {v : Value} {n e : Nat} (ht : P.underlying t = some (.array n e)) (h : Value.okWide P w r base t v) : ∃ cs, v = .agg cs ∧ cs.size = P.cellsOf t := by
  simp only [Value.okWide, ht] at h
  obtain ⟨cs, h1, h2, _⟩ := h
  exact ⟨cs, h1, h2⟩
theorem GraphMore.walk (w : World) (a0 : Int) (w0 : (Lit.int .u8 a0).wf = true) (A1 : Option Addr) (c1 : Nat) (x1 : List S45) (hc1 : Kd.C k45 w A1 x1.length x1) (hl1 : x1.length ≤ c1) (y1 : x1.length * 2 ≤ 140737488351232 ∧ ∀ x ∈ x1, (Lit.int .u8 x.f0).wf = true ∧ (Lit.int .u8 x.f1).wf = true)
    (x2 : S45) (cs : Array Value) (hx : k45.K w x2 cs.toList) (hf : (Lit.int .u8 x2.f0).wf = true ∧ (Lit.int .u8 x2.f1).wf = true) (a3 : Int) (w3 : (Lit.int .u8 a3).wf = true) :
    Calls Try.prog 7 #[.int .u8 a0, .slice A1 x1.length c1, .agg cs, .int .u8 a3] w fun e w' => e = .returned (.bool true) ∧ Below w.heap.size w w' := by
  obtain rfl : cs = #[.int .u8 x2.f0, .int .u8 x2.f1] := Array.toList_inj.1 (k45_open hx)
  obtain ⟨k, hk⟩ := GraphMore.pure (b0 := x2.f0) (b1 := x2.f1) (u8_in w0) (u8s_in y1).1 (u8s_in y1).2 (u8_in hf.1) (u8_in hf.2) (u8_in w3)
  exact lambrequinlaw10_GraphMore.calls k a0 A1 c1 x1 x2.f0 x2.f1 a3 true w hc1 hl1 hk
end Go.Proofs.Ytngmdccheaidkaa.Pr
