/- Texts of the seat, without what this claim does not use. -/
import Derived.Test.YtngmdccheaidkaaTF
import Derived.ChangeKeysEq
/- Two pairs of ints compared, as one Bool. -/
namespace Go.Proofs.Ytngmdccheaidkaa.Pr
open Go.RowKit Go.Proofs.YtngmdccheaidkaaW.PrintWords Go.Proofs.YtngmdccheaidkaaW.PrintLast Go.Proofs.YtngmdccheaidkaaW.PrintMore
theorem eqA27 (d : Nat) (w : World) (x0 y0 : Int) (x1 y1 : Int) :
    (Op.equalIn (d + 2) 27 (.agg #[.int .i64 x0, .int .i64 x1]) (.agg #[.int .i64 y0, .int .i64 y1])).run Try.prog w = .ok (x0 == y0 && (x1 == y1)) w := by
  have hi : ∃ i, Try.prog.info? 3 = some i := by
    obtain ⟨i, hi, _⟩ := info_parts info3
    exact ⟨i, hi⟩
  obtain ⟨i, hi⟩ := hi
  have hc : Try.prog.cellsOf 3 = 1 := by kernel_rfl
  rw [run_equalIn_array (P := Try.prog) (w := w) (d + 1) #[.int .i64 x0, .int .i64 x1] #[.int .i64 y0, .int .i64 y1] Try.underlying27 hi, hc]
  have h0 : (part 3 #[.int .i64 x0, .int .i64 x1] (0 * 1)).run Try.prog w = .ok (.int .i64 x0) w := by go_simp
  have h1 : (part 3 #[.int .i64 y0, .int .i64 y1] (0 * 1)).run Try.prog w = .ok (.int .i64 y0) w := by go_simp
  have h2 : (part 3 #[.int .i64 x0, .int .i64 x1] (1 * 1)).run Try.prog w = .ok (.int .i64 x1) w := by go_simp
  have h3 : (part 3 #[.int .i64 y0, .int .i64 y1] (1 * 1)).run Try.prog w = .ok (.int .i64 y1) w := by go_simp
  have e0 : (Op.equalIn (d + 1) 3 (.int .i64 x0) (.int .i64 y0)).run Try.prog w = .ok (x0 == y0) w := by go_simp
  have e1 : (Op.equalIn (d + 1) 3 (.int .i64 x1) (.int .i64 y1)).run Try.prog w = .ok (x1 == y1) w := by go_simp
  rw [show List.range 2 = [0, 1] from rfl]
  simp only [Op.eqItems, Sem.run_bind, h0, h1, e0, Result.andThen_ok]
  cases x0 == y0
  · simp
  · simp only [Bool.not_true, Bool.false_eq_true, if_false, Sem.run_bind, h2, h3, e1, Result.andThen_ok]
    cases x1 == y1 <;> simp
end Go.Proofs.Ytngmdccheaidkaa.Pr
