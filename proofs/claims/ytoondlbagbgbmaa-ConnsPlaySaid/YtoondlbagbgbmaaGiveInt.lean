/- What a row's step hands to a walk: integers. -/
import Derived.Test.YtoondlbagbgbmaaRows
import Derived.Test.YtoondlbagbgbmaaBase
namespace Go.Proofs.Ytoondlbagbgbmaa
open Go.RowKit Go.Shelf

theorem u8_of_wf {n : Int} (h : (Lit.int .u8 n).wf = true) : ∃ m : Nat, n = (m : Int) ∧ m < 256 := by
  simp only [Lit.wf, Bool.and_eq_true, decide_eq_true_eq, show IntKind.u8.min = 0 from rfl, show IntKind.u8.max = 255 from rfl] at h
  exact ⟨n.toNat, by omega, by omega⟩
theorem u16_of_wf {n : Int} (h : (Lit.int .u16 n).wf = true) : ∃ m : Nat, n = (m : Int) ∧ m < 65536 := by
  simp only [Lit.wf, Bool.and_eq_true, decide_eq_true_eq, show IntKind.u16.min = 0 from rfl, show IntKind.u16.max = 65535 from rfl] at h
  exact ⟨n.toNat, by omega, by omega⟩
end Go.Proofs.Ytoondlbagbgbmaa
