/- What a flow, and a script, read as, when they come in. -/
import Derived.Test.YtmacollhnnachaaF
import Derived.Test.YtmacollhnnachaaRd
namespace Go.Proofs.Ytmacollhnnachaa.Pr
open Go.RowKit Go.Proofs.YtmacollhnnachaaW.PrintWords Go.Proofs.YtmacollhnnachaaW.PrintLast Go.Proofs.YtmacollhnnachaaW.PrintMore
section
variable {H : Type} {enc : TypeId × Value → H} {w : World} {base : Nat} {spare : Nat → Bool} {held : Bool}
theorem opens_imp {α : Type} {P : Program} {t : TypeId} {d : Kd α} {Fit Fit' : α → Prop} (h : Opens enc P w base spare held t d Fit) (hf : ∀ x, Fit x → Fit' x) : Opens enc P w base spare held t d Fit' := by
  intro fuel cs x hx hw
  obtain ⟨v, hv, hv'⟩ := h fuel cs x hx hw
  exact ⟨v, hv, hf v hv'⟩
theorem opens38 : Opens enc Try.prog w base spare held 38 k38 (fun _ => True) :=
  opens_imp (opens_struct (d := Kd.pair (Kd.int .i64) (Kd.pair Kd.string (Kd.pair Kd.string (Kd.pair Kd.string (Kd.pair Kd.string (Kd.pair (Kd.int .i64) (Kd.pair (Kd.int .i64) (Kd.int .i64)))))))) (fun x : S38 => (x.f0, x.f1, x.f2, x.f3, x.f4, x.f5, x.f6, x.f7)) (fun y => ⟨y.1, y.2.1, y.2.2.1, y.2.2.2.1, y.2.2.2.2.1, y.2.2.2.2.2.1, y.2.2.2.2.2.2.1, y.2.2.2.2.2.2.2⟩) (fun _ => rfl) Try.underlying38 (by kernel_rfl)
    (.cons rfl (by kernel_rfl) (opens_int Try.underlying3) (.cons rfl (by kernel_rfl) (opens_string Try.underlying9) (.cons rfl (by kernel_rfl) (opens_string Try.underlying9) (.cons rfl (by kernel_rfl) (opens_string Try.underlying9) (.cons rfl (by kernel_rfl) (opens_string Try.underlying9) (.cons rfl (by kernel_rfl) (opens_int Try.underlying2) (.cons rfl (by kernel_rfl) (opens_int Try.underlying3) (.last rfl (by kernel_rfl) (opens_int Try.underlying3))))))))))
    (fun _ _ => trivial)
theorem opens22 : Opens enc Try.prog w base spare held 22 (Kd.slice 38 k38) (fun xs => xs.length * 96 ≤ 140737488351232) :=
  opens_imp (opens_slice Try.underlying22 (by kernel_rfl) opens38) (fun xs h => by have e : Try.prog.bytesOf 38 = 96 := by kernel_rfl
                                                                                   rw [e] at h; exact h.1)
theorem opens23 : Opens enc Try.prog w base spare held 23 (Kd.slice 2 (Kd.int .i64)) (fun xs => xs.length * 8 ≤ 140737488351232) :=
  opens_imp (opens_slice Try.underlying23 (by kernel_rfl) (opens_int Try.underlying2)) (fun xs h => by have e : Try.prog.bytesOf 2 = 8 := by kernel_rfl
                                                                                                       rw [e] at h; exact h.1)
theorem opens24 : Opens enc Try.prog w base spare held 24 (Kd.slice 4 Kd.bool) (fun _ => True) :=
  opens_imp (opens_slice Try.underlying24 (by kernel_rfl) (opens_bool Try.underlying4)) (fun _ _ => trivial)
/-- A script. -/
structure S26 where
  f0 : List S38
  f1 : List Int
  f2 : List Bool
  f3 : Int
def k26 : Kd S26 := Kd.iso (Kd.pair (Kd.slice 38 k38) (Kd.pair (Kd.slice 2 (Kd.int .i64)) (Kd.pair (Kd.slice 4 Kd.bool) (Kd.int .i64)))) (fun x : S26 => (x.f0, x.f1, x.f2, x.f3))
theorem opens26 : Opens enc Try.prog w base spare held 26 k26 (fun x => x.f0.length * 96 ≤ 140737488351232 ∧ x.f1.length * 8 ≤ 140737488351232) :=
  opens_imp (opens_struct (fun x : S26 => (x.f0, x.f1, x.f2, x.f3)) (fun y => ⟨y.1, y.2.1, y.2.2.1, y.2.2.2⟩) (fun _ => rfl) Try.underlying26 (by kernel_rfl)
    (.cons rfl (by kernel_rfl) opens22 (.cons rfl (by kernel_rfl) opens23 (.cons rfl (by kernel_rfl) opens24 (.last rfl (by kernel_rfl) (opens_int Try.underlying3))))))
    (fun _ h => ⟨h.1, h.2.1⟩)
theorem k26_open {x : S26} {cs : List Value} (h : k26.K w x cs) : ∃ A0 c0 A1 c1 A2 c2, cs = [.slice A0 x.f0.length c0, .slice A1 x.f1.length c1, .slice A2 x.f2.length c2, .int .i64 x.f3] ∧
    Kd.C k38 w A0 x.f0.length x.f0 ∧ x.f0.length ≤ c0 ∧ Kd.C (Kd.int .i64) w A1 x.f1.length x.f1 ∧ x.f1.length ≤ c1 ∧ Kd.C Kd.bool w A2 x.f2.length x.f2 ∧ x.f2.length ≤ c2 := by
  obtain ⟨_, _, rfl, ⟨A0, c0, rfl, l0, h0⟩, _, _, rfl, ⟨A1, c1, rfl, l1, h1⟩, _, _, rfl, ⟨A2, c2, rfl, l2, h2⟩, rfl⟩ := h
  exact ⟨A0, c0, A1, c1, A2, c2, rfl, h0, l0, h1, l1, h2, l2⟩
end
end Go.Proofs.Ytmacollhnnachaa.Pr
