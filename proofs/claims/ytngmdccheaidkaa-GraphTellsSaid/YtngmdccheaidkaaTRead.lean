/- Texts of the seat, without what this claim does not use. -/
import Derived.Test.YtngmdccheaidkaaTF
import Derived.Test.YtngmdccheaidkaaTRd
/- What edges read as, when they come in. -/
namespace Go.Proofs.Ytngmdccheaidkaa.Pr
open Go.RowKit Go.Proofs.YtngmdccheaidkaaW.PrintWords Go.Proofs.YtngmdccheaidkaaW.PrintLast Go.Proofs.YtngmdccheaidkaaW.PrintMore
section
variable {H : Type} {enc : TypeId × Value → H} {w : World} {base : Nat} {spare : Nat → Bool} {held : Bool}
theorem opens_imp {α : Type} {P : Program} {t : TypeId} {d : Kd α} {Fit Fit' : α → Prop} (h : Opens enc P w base spare held t d Fit) (hf : ∀ x, Fit x → Fit' x) : Opens enc P w base spare held t d Fit' := by
  intro fuel cs x hx hw
  obtain ⟨v, hv, hv'⟩ := h fuel cs x hx hw
  exact ⟨v, hv, hf v hv'⟩
/-- An array of two numbers. -/
theorem opens_two {β : Type} {P : Program} {t e : TypeId} {k : IntKind} (f : β → Int × Int) (g : Int × Int → β) (hfg : ∀ x, f (g x) = x) (ht : P.underlying t = some (.array 2 e)) (hct : P.cellsOf t = 2) (hce : P.cellsOf e = 1) (he : P.underlying e = some (.int k)) :
    Opens enc P w base spare held t (Kd.iso (Kd.pair (Kd.int k) (Kd.int k)) f) (fun x => (Lit.int k (f x).1).wf = true ∧ (Lit.int k (f x).2).wf = true) := by
  intro fuel cs x hx _
  obtain ⟨xs, m, _, _, hl, hxl, hi⟩ := DataW.trod_array ht hx
  rw [hct] at hl
  match cs, hl with
  | [c0, c1], _ =>
    match xs, hxl with
    | [y0, y1], _ =>
      have h0 := hi 0 (by decide)
      have h1 := hi 1 (by decide)
      rw [hce] at h0 h1
      obtain ⟨n0, e0, _, w0⟩ := DataW.trod_int he (show DataW.trod enc P w base spare held m e [c0] = some y0 from h0)
      obtain ⟨n1, e1, _, w1⟩ := DataW.trod_int he (show DataW.trod enc P w base spare held m e [c1] = some y1 from h1)
      simp only [List.cons.injEq, and_true] at e0 e1
      subst e0 e1
      refine ⟨g (n0, n1), ?_, ?_⟩
      · show (Kd.pair (Kd.int k) (Kd.int k)).K w (f (g (n0, n1))) _
        rw [hfg]
        exact ⟨[.int k n0], [.int k n1], rfl, rfl, rfl⟩
      · show (Lit.int k (f (g (n0, n1))).1).wf = true ∧ (Lit.int k (f (g (n0, n1))).2).wf = true
        rw [hfg]; exact ⟨w0, w1⟩
theorem opens45 : Opens enc Try.prog w base spare held 45 k45 (fun x => (Lit.int .u8 x.f0).wf = true ∧ (Lit.int .u8 x.f1).wf = true) :=
  opens_two (fun x : S45 => (x.f0, x.f1)) (fun y => ⟨y.1, y.2⟩) (fun _ => rfl) Try.underlying45 (by kernel_rfl) (by kernel_rfl) Try.underlying5
theorem opens27 : Opens enc Try.prog w base spare held 27 k27 (fun x => (Lit.int .i64 x.f0).wf = true ∧ (Lit.int .i64 x.f1).wf = true) :=
  opens_two (fun x : S27 => (x.f0, x.f1)) (fun y => ⟨y.1, y.2⟩) (fun _ => rfl) Try.underlying27 (by kernel_rfl) (by kernel_rfl) Try.underlying3
theorem opens22 : Opens enc Try.prog w base spare held 22 (Kd.slice 45 k45) (fun xs => xs.length * 2 ≤ 140737488351232 ∧ ∀ x ∈ xs, (Lit.int .u8 x.f0).wf = true ∧ (Lit.int .u8 x.f1).wf = true) :=
  opens_imp (opens_slice Try.underlying22 (by kernel_rfl) opens45) (fun xs h => by have e : Try.prog.bytesOf 45 = 2 := by kernel_rfl
                                                                                   rw [e] at h; exact h)
theorem opens24 : Opens enc Try.prog w base spare held 24 (Kd.slice 27 k27) (fun xs => xs.length * 16 ≤ 140737488351232 ∧ ∀ x ∈ xs, (Lit.int .i64 x.f0).wf = true ∧ (Lit.int .i64 x.f1).wf = true) :=
  opens_imp (opens_slice Try.underlying24 (by kernel_rfl) opens27) (fun xs h => by have e : Try.prog.bytesOf 27 = 16 := by kernel_rfl
                                                                                   rw [e] at h; exact h)
theorem u8_in {n : Int} (h : (Lit.int .u8 n).wf = true) : 0 ≤ n ∧ n ≤ 255 := by
  simp only [Lit.wf, Bool.and_eq_true, decide_eq_true_eq] at h
  exact h
theorem u8s_in {l : List S45} (h : l.length * 2 ≤ 140737488351232 ∧ ∀ x ∈ l, (Lit.int .u8 x.f0).wf = true ∧ (Lit.int .u8 x.f1).wf = true) : (∀ x ∈ l, (0 ≤ x.f0 ∧ x.f0 ≤ 255) ∧ 0 ≤ x.f1 ∧ x.f1 ≤ 255) ∧ l.length < 1000000000000000 :=
  ⟨fun x hx => ⟨u8_in (h.2 x hx).1, u8_in (h.2 x hx).2⟩, by omega⟩
end
end Go.Proofs.Ytngmdccheaidkaa.Pr
