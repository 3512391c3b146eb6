/- Keys against keys. -/
import Derived.Test.YtoondlbagbgbmaaRows
import Derived.Test.YtoondlbagbgbmaaBase
import Derived.Test.YtoondlbagbgbmaaProbe
import Derived.Laws.StructEq
namespace Go.Proofs.Ytoondlbagbgbmaa
open Go.RowKit Go.Shelf Go.Proofs.Tab

theorem run_eql_key (a b : Key) (w : World) : (binOp .eql 29 (.agg #[.int .i64 a.1, .int .i64 a.2.1, .int .i64 a.2.2]) (.agg #[.int .i64 b.1, .int .i64 b.2.1, .int .i64 b.2.2])).run Try.prog w = .ok (.bool (decide (a = b))) w := by
  rw [run_eql_struct, run_equalIn_struct w 9999 29 _ _ (by kernel_rfl) (by kernel_rfl)]
  simp [go_sem, Try.underlying29]
  obtain ⟨a1, a2, a3⟩ := a
  obtain ⟨b1, b2, b3⟩ := b
  by_cases h1 : a1 = b1 <;> by_cases h2 : a2 = b2 <;> by_cases h3 : a3 = b3 <;> simp [h1, h2, h3]
theorem run_neq_key (a b : Key) (w : World) : (binOp .neq 29 (.agg #[.int .i64 a.1, .int .i64 a.2.1, .int .i64 a.2.2]) (.agg #[.int .i64 b.1, .int .i64 b.2.1, .int .i64 b.2.2])).run Try.prog w = .ok (.bool (!decide (a = b))) w := by
  have h := run_eql_key a b w
  simp only [binOp, Sem.run_bind, Sem.run_pure] at h ⊢
  cases hq : (Op.equal 29 (.agg #[.int .i64 a.1, .int .i64 a.2.1, .int .i64 a.2.2]) (.agg #[.int .i64 b.1, .int .i64 b.2.1, .int .i64 b.2.2])).run Try.prog w with
  | ok r w1 => simp only [hq, Result.andThen_ok] at h ⊢; simp_all
  | halt x w1 => simp [hq, Result.andThen] at h
end Go.Proofs.Ytoondlbagbgbmaa
