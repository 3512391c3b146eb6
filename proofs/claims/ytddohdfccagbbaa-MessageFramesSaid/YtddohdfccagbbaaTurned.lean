/- Plain: one turned bit is told by the sum of a frame. -/
import Derived.Test.YtddohdfccagbbaaRows
import Derived.Test.YtddohdfccagbbaaBase
import Derived.Test.YtddohdfccagbbaaBytes
import Derived.Test.YtddohdfccagbbaaSums
import Derived.Test.YtddohdfccagbbaaFrame
import Derived.Test.YtddohdfccagbbaaGPure
import Derived.Test.YtddohdfccagbbaaMisc16
namespace Go.Proofs.Ytddohdfccagbbaa
open Go.RowKit Go.Shelf

def step1 (r : Nat) (b : Bool) : Nat := regStep 2147483648 4294967295 79764919 r b
theorem high_bit (r : Nat) (h : r < 4294967296) : (r &&& 2147483648 != 0) = decide (2147483648 ≤ r) := by
  have e : r &&& 2147483648 = if r.testBit 31 = true then 2147483648 else 0 := by
    apply Nat.eq_of_testBit_eq
    intro i
    rw [Nat.testBit_and, show (2147483648 : Nat) = 2 ^ 31 from rfl, Nat.testBit_two_pow]
    by_cases hi : 31 = i
    · subst hi
      cases hb : r.testBit 31
      · simp
      · simp
        decide
    · cases hb : r.testBit 31
      · simp [hi]
      · rw [if_pos rfl, Nat.testBit_two_pow]
        simp [hi]
  rw [e, Nat.testBit_eq_decide_div_mod_eq]
  by_cases hr : 2147483648 ≤ r
  · have : r / 2 ^ 31 % 2 = 1 := by omega
    simp [this, hr]
  · have : r / 2 ^ 31 % 2 = 0 := by omega
    simp [this, hr]
theorem xor_odd (a b : Nat) (ha : a % 2 = 0) (hb : b % 2 = 1) : (a ^^^ b) % 2 = 1 := by
  have := Nat.testBit_xor a b 0
  rw [Nat.testBit_zero, Nat.testBit_zero, Nat.testBit_zero, ha, hb] at this
  simpa using this
theorem step1_eq (r : Nat) (b : Bool) (h : r < 4294967296) : step1 r b = if decide (2147483648 ≤ r) = b then r * 2 % 4294967296 else (r * 2 % 4294967296) ^^^ 79764919 := by
  have hm : (r * 2 % 4294967296) &&& 4294967295 = r * 2 % 4294967296 := by
    rw [show (4294967295 : Nat) = 2 ^ 32 - 1 from rfl, Nat.and_two_pow_sub_one_eq_mod]
    omega
  rw [step1, regStep, hm, high_bit r h]
  by_cases e : decide (2147483648 ≤ r) = b
  · rw [if_pos (by rw [e]; simp), if_pos e]
  · rw [if_neg (by simpa using e), if_neg e]
theorem step1_lt (r : Nat) (b : Bool) : step1 r b < 4294967296 := regStep_lt _ _ _ _ _ (by decide) (by decide)
theorem step1_low (r : Nat) (b : Bool) (h : r < 4294967296) : step1 r b % 2 = if decide (2147483648 ≤ r) = b then 0 else 1 := by
  rw [step1_eq r b h]
  split
  · omega
  · exact xor_odd _ _ (by omega) (by decide)
theorem step1_inj (r s : Nat) (b : Bool) (hr : r < 4294967296) (hs : s < 4294967296) (h : step1 r b = step1 s b) : r = s := by
  have h2 : step1 r b % 2 = step1 s b % 2 := by rw [h]
  rw [step1_low r b hr, step1_low s b hs] at h2
  rw [step1_eq r b hr, step1_eq s b hs] at h
  by_cases e1 : decide (2147483648 ≤ r) = b
  · by_cases e2 : decide (2147483648 ≤ s) = b
    · rw [if_pos e1, if_pos e2] at h
      have e3 : decide (2147483648 ≤ r) = decide (2147483648 ≤ s) := e1.trans e2.symm
      rw [decide_eq_decide] at e3
      omega
    · rw [if_pos e1, if_neg e2] at h2
      omega
  · by_cases e2 : decide (2147483648 ≤ s) = b
    · rw [if_neg e1, if_pos e2] at h2
      omega
    · rw [if_neg e1, if_neg e2] at h
      have h3 : r * 2 % 4294967296 = s * 2 % 4294967296 := by
        have := congrArg (· ^^^ 79764919) h
        simpa [Nat.xor_assoc, Nat.xor_self, Nat.xor_zero] using this
      have e3 : decide (2147483648 ≤ r) = decide (2147483648 ≤ s) := by
        cases b <;> simp at e1 e2 <;> simp <;> omega
      rw [decide_eq_decide] at e3
      omega
theorem step1_bit (r : Nat) (b : Bool) (hr : r < 4294967296) : step1 r b ≠ step1 r (!b) := by
  intro h
  have h2 : step1 r b % 2 = step1 r (!b) % 2 := by rw [h]
  rw [step1_low r b hr, step1_low r (!b) hr] at h2
  generalize decide (2147483648 ≤ r) = d at h2
  cases d <;> cases b <;> simp at h2
theorem fold_lt (l : List Bool) : ∀ r, r < 4294967296 → l.foldl step1 r < 4294967296 := by
  induction l with
  | nil => exact fun r h => h
  | cons b l ih => exact fun r _ => ih _ (step1_lt r b)
theorem fold_inj (l : List Bool) : ∀ r s, r < 4294967296 → s < 4294967296 → l.foldl step1 r = l.foldl step1 s → r = s := by
  induction l with
  | nil => exact fun r s _ _ h => h
  | cons b l ih => exact fun r s hr hs h => step1_inj r s b hr hs (ih _ _ (step1_lt r b) (step1_lt s b) h)
theorem fold_turned (p q : List Bool) (b : Bool) (r : Nat) (hr : r < 4294967296) : (p ++ b :: q).foldl step1 r ≠ (p ++ (!b) :: q).foldl step1 r := by
  intro h
  rw [List.foldl_append, List.foldl_append, List.foldl_cons, List.foldl_cons] at h
  exact step1_bit _ b (fold_lt p r hr) (fold_inj q _ _ (step1_lt _ _) (step1_lt _ _) h)
theorem bits_tab : ∀ n, n < 256 → ∀ s, s < 8 → bitsOf (UInt8.ofNat n ^^^ ((128 : UInt8) >>> UInt8.ofNat s)) = (bitsOf (UInt8.ofNat n)).take s ++ (!((bitsOf (UInt8.ofNat n))[s]?.getD false)) :: (bitsOf (UInt8.ofNat n)).drop (s + 1) := by
  decide +kernel
theorem bits_turned (x : UInt8) (s : Nat) (hs : s < 8) : ∃ p q b, bitsOf x = p ++ b :: q ∧ bitsOf (x ^^^ ((128 : UInt8) >>> UInt8.ofNat s)) = p ++ (!b) :: q := by
  have key := bits_tab x.toNat x.toNat_lt s hs
  rw [UInt8.ofNat_toNat] at key
  have h8 : (bitsOf x).length = 8 := rfl
  refine ⟨(bitsOf x).take s, (bitsOf x).drop (s + 1), (bitsOf x)[s]?.getD false, ?_, key⟩
  have : (bitsOf x)[s]?.getD false = (bitsOf x)[s]'(by omega) := by simp [h8, hs]
  rw [this, List.getElem_cons_drop, List.take_append_drop]
/-- The sum of bytes of which one bit is turned is another one. -/
theorem long_turned (l : List UInt8) (i : Nat) (hi : i / 8 < l.length) : longOf (flipOf l i) ≠ longOf l := by
  intro h
  have hc : crc (flipOf l i) = crc l := by
    have := congrArg (4294967295 ^^^ ·) h
    simpa [longOf, ← Nat.xor_assoc, Nat.xor_self, Nat.zero_xor] using this
  obtain ⟨p, q, b, e1, e2⟩ := bits_turned l[i / 8] (i % 8) (by omega)
  have hl : l = l.take (i / 8) ++ l[i / 8] :: l.drop (i / 8 + 1) := by rw [List.getElem_cons_drop, List.take_append_drop]
  have hf : flipOf l i = l.take (i / 8) ++ (l[i / 8] ^^^ ((128 : UInt8) >>> UInt8.ofNat (i % 8))) :: l.drop (i / 8 + 1) := by
    rw [flipOf, List.set_eq_take_append_cons_drop, if_pos hi, List.getElem?_eq_getElem hi]
    rfl
  have c1 : l.flatMap bitsOf = ((l.take (i / 8)).flatMap bitsOf ++ p) ++ b :: (q ++ (l.drop (i / 8 + 1)).flatMap bitsOf) := by
    conv => lhs; rw [hl]
    rw [List.flatMap_append, List.flatMap_cons, e1]
    simp
  have c2 : (flipOf l i).flatMap bitsOf = ((l.take (i / 8)).flatMap bitsOf ++ p) ++ (!b) :: (q ++ (l.drop (i / 8 + 1)).flatMap bitsOf) := by
    rw [hf, List.flatMap_append, List.flatMap_cons, e2]
    simp
  have := fold_turned ((l.take (i / 8)).flatMap bitsOf ++ p) (q ++ (l.drop (i / 8 + 1)).flatMap bitsOf) b 4294967295 (by decide)
  rw [← c1, ← c2] at this
  exact this hc.symm
theorem sum_inj (a b : List UInt8) (h : sumBytes a = sumBytes b) : longOf a = longOf b := by
  have ha := longOf_lt a
  have hb := longOf_lt b
  simp only [sumBytes, List.cons.injEq, and_true] at h
  obtain ⟨h3, h2, h1, h0⟩ := h
  have k3 := congrArg UInt8.toNat h3
  have k2 := congrArg UInt8.toNat h2
  have k1 := congrArg UInt8.toNat h1
  have k0 := congrArg UInt8.toNat h0
  simp only [UInt8.toNat_ofNat'] at k3 k2 k1 k0
  omega
theorem turn_ne (x : UInt8) (s : Nat) (hs : s < 8) : x ^^^ ((128 : UInt8) >>> UInt8.ofNat s) ≠ x := by
  intro h
  obtain ⟨p, q, b, e1, e2⟩ := bits_turned x s hs
  rw [h, e1] at e2
  have := List.append_cancel_left e2
  simp at this
/-- A frame of which one bit is turned. -/
theorem unpack_turned (l : List UInt8) (i : Nat) (hi : i < 8 * l.length) (h48 : l.length % 48 = 0) (hok : l.drop (l.length - 4) = sumBytes (l.take (l.length - 4))) : (unpackOf (flipOf l i)).2.2 = 4 := by
  have hfl : (flipOf l i).length = l.length := by simp [flipOf]
  have hne : (flipOf l i).drop ((flipOf l i).length - 4) ≠ sumBytes ((flipOf l i).take ((flipOf l i).length - 4)) := by
    rw [hfl]
    by_cases hb : i / 8 < l.length - 4
    · have e1 : (flipOf l i).drop (l.length - 4) = l.drop (l.length - 4) := by rw [flipOf, List.drop_set_of_lt hb]
      have e2 : (flipOf l i).take (l.length - 4) = flipOf (l.take (l.length - 4)) i := by
        rw [flipOf, flipOf, List.take_set, List.getElem?_take_of_lt hb]
      rw [e1, e2, hok]
      intro h
      exact long_turned _ i (by rw [List.length_take]; omega) (sum_inj _ _ h).symm
    · have e2 : (flipOf l i).take (l.length - 4) = l.take (l.length - 4) := by rw [flipOf, List.take_set_of_le (by omega)]
      rw [e2, ← hok]
      intro h
      have hi8 : i / 8 < l.length := by omega
      have := congrArg (fun z => z[i / 8 - (l.length - 4)]?) h
      simp only [List.getElem?_drop] at this
      rw [show l.length - 4 + (i / 8 - (l.length - 4)) = i / 8 from by omega, flipOf, List.getElem?_set_self hi8, List.getElem?_eq_getElem hi8] at this
      exact turn_ne _ _ (by omega) (Option.some.inj this)
  rw [unpackOf, if_neg (by rw [hfl]; omega), if_pos hne]
end Go.Proofs.Ytddohdfccagbbaa
