/- conns: where a key would lie (any key, any numbers). -/
import Derived.Test.YtoondlbagbgbmaaRows
import Derived.Test.YtoondlbagbgbmaaBase
import Derived.Test.YtoondlbagbgbmaaProbe
namespace Go.Proofs.Ytoondlbagbgbmaa
open Go.RowKit Go.Shelf Go.Proofs.Tab

def mixOf (k : Key) : Int := bits .xor .u32 (wrap64 (wrap64 (k.1 * 4096) + k.2.1) % 4294967296 * 65536 % 4294967296) (k.2.2 % 4294967296 * 2654435761 % 4294967296)
def homeInt (k : Key) : Int := wrap64 ((bits .xor .u32 (mixOf k) (mixOf k / 65536)).tmod 128)
/-- Where a key would lie, if it were the only one. -/
def homeOf (k : Key) : Nat := (homeInt k).toNat
theorem bits_nonneg (op : BinOp) (x y : Int) : 0 ≤ bits op .u32 x y := by
  unfold bits IntKind.wrap
  simp only [show IntKind.u32.signed = false from rfl, Bool.false_and, Bool.false_eq_true, if_false]
  exact Int.emod_nonneg _ (by simp [IntKind.bits])
theorem homeInt_lt (k : Key) : 0 ≤ homeInt k ∧ homeInt k < 128 := by
  have h := bits_nonneg .xor (mixOf k) (mixOf k / 65536)
  have h1 : 0 ≤ (bits .xor .u32 (mixOf k) (mixOf k / 65536)).tmod 128 := Int.tmod_nonneg _ h
  have h2 : (bits .xor .u32 (mixOf k) (mixOf k / 65536)).tmod 128 < 128 := Int.tmod_lt_of_pos _ (by omega)
  unfold homeInt wrap64
  omega
theorem homeOf_lt (k : Key) : homeOf k < 128 := by
  have := homeInt_lt k
  unfold homeOf
  omega
theorem homeOf_int (k : Key) : ((homeOf k : Nat) : Int) = homeInt k := by
  have := homeInt_lt k
  unfold homeOf
  omega
/-- A key, as a value. -/
def keyV (k : Key) : Value := .agg #[.int .i64 k.1, .int .i64 k.2.1, .int .i64 k.2.2]

theorem home_calls (k : Key) (w : World) :
    Calls Try.prog 32 #[.agg #[.int .i64 k.1, .int .i64 k.2.1, .int .i64 k.2.2]] w fun e w' => e = .returned (.int .i64 ((homeOf k : Nat) : Int)) ∧ Upd No w w' := by
  rw [homeOf_int]
  go_enter Try.func32, Try.ntmps32
  go_wp2
  go_ret
  exact ⟨rfl, (Upd.refl _ w).alloc _⟩
end Go.Proofs.Ytoondlbagbgbmaa
