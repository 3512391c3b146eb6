/- conns: the search for a key. -/
import Derived.Test.YtoondlbagbgbmaaRows
import Derived.Test.YtoondlbagbgbmaaBase
import Derived.Test.YtoondlbagbgbmaaProbe
import Derived.Test.YtoondlbagbgbmaaHome
import Derived.Test.YtoondlbagbgbmaaTab
import Derived.Test.YtoondlbagbgbmaaEq
namespace Go.Proofs.Ytoondlbagbgbmaa
open Go.RowKit Go.Shelf Go.Proofs.Tab
attribute [local go_sem] Oper.semAt_some

def FoundAt (S : Nat → Option Ent) (k : Key) (w : World) (e : Ending) (w' : World) : Prop := ∃ i : Nat, e = .returned (.int .i64 (i : Int)) ∧ Seek homeOf S k i ∧ Upd No w w'

set_option maxRecDepth 100000 in
set_option maxHeartbeats 1000000 in
theorem find_calls (b : Nat) (S : Nat → Option Ent) (len room : Int) (k : Key) (w : World) (hT : TabAt w b S len room) (o : Nat) (ho : o < 128) (hfree : S o = none) :
    Calls Try.prog 25 #[.pointer (some ⟨b, 0, none⟩), .agg #[.int .i64 k.1, .int .i64 k.2.1, .int .i64 k.2.2]] w (FoundAt S k w) := by
  have hlt := homeOf_lt k
  have Hf := Lib.hid hfree
  clear hfree
  go_enter Try.func25, Try.ntmps25
  go_wp2
  go_step3
  go_wp2_with (go_at_call 32; refine (home_calls k _).mono ?_; rintro e w1 ⟨rfl, hU⟩)
  go_step3
  obtain ⟨B, hB⟩ : ∃ B, B = w.heap.size := ⟨_, rfl⟩
  have hbox : w1.heap[B]? = some (.cells #[.int .i64 k.1, .int .i64 k.2.1, .int .i64 k.2.2] 29 (0, 0)) := by
    rw [hB]; exact hU.at (block_new w _) (fun h => h)
  have hU1 : Upd No w w1 := ((Upd.refl _ w).alloc _).trans hU
  rw [← hB]
  have HB := Lib.hid hB
  clear hU hB
  go_wp2
  go_loopw [5] (fun v wr => ∃ d : Nat, d ≤ (o + 128 - homeOf k) % 128 ∧ v = .int .i64 (((homeOf k + d) % 128 : Nat) : Int) ∧ (∀ d', d' < d → ∃ e, S ((homeOf k + d') % 128) = some e ∧ e.1 ≠ k) ∧ Upd No w1 wr)
    (fun v _ => (o + 128 - (intOf v).toNat) % 128)
  case atStart => exact ⟨0, Nat.zero_le _, by rw [Nat.add_zero, Nat.mod_eq_of_lt hlt], fun d' h => absurd h (by omega), Upd.refl _ _⟩
  case round =>
    obtain ⟨d, hd, rfl, hbef, hnx⟩ := hrel
    obtain ⟨i, hi⟩ : ∃ i, i = (homeOf k + d) % 128 := ⟨_, rfl⟩
    rw [← hi]
    have hi128 : i < 128 := by omega
    have hTr := (hT.upd hU1 (fun h => h)).upd hnx (fun h => h)
    have hTf := hTr.free
    have hbr := cells_at (hnx.at hbox (fun h => h))
    have HI := Lib.hid hi
    cases hs : S i with
    | none =>
      obtain ⟨_, _, _, _, hT4⟩ := hTr.atNone hi128 hs
      clear hTf hi hTr hbr
      go_wp2
      rw [Exit.noGoto_ret]
      go_ret
      exact ⟨i, rfl, ⟨d, by omega, HI.out, hbef, .inl hs⟩, hU1.trans hnx⟩
    | some e =>
      obtain ⟨k2, n2⟩ := e
      obtain ⟨hT0, hT1, hT2, _, hT4⟩ := hTr.atSome hi128 hs
      obtain ⟨hb0, _⟩ := hbr
      have hc0 := hb0 0
      have hc1 := hb0 1
      have hc2 := hb0 2
      have hi0 : (0 : Int) ≤ (i : Int) := by omega
      have hi1 : (i : Int) < 128 := by omega
      have hr1 : ((i : Int) + 1) % 128 = (((homeOf k + (d + 1)) % 128 : Nat) : Int) := by omega
      have HR := Lib.hid hr1
      have hmeas : i ≠ o → (o + 128 - (homeOf k + (d + 1)) % 128) % 128 < (o + 128 - i) % 128 ∧ d + 1 ≤ (o + 128 - homeOf k) % 128 := by omega
      by_cases hk : k2 = k
      · have heq := run_eql_key k2 k
        rw [show decide (k2 = k) = true from by simp [hk]] at heq
        have HK := Lib.hid hk
        clear hTf hi hTr hb0 hk hr1 hmeas
        go_wp2
        go_quiet (fail)
        go_wp2
        rw [Exit.noGoto_ret]
        go_ret
        exact ⟨i, rfl, ⟨d, by omega, HI.out, hbef, .inr ⟨n2, by rw [hs, HK.out]⟩⟩, (hU1.trans hnx).drewN _⟩
      · have heq := run_eql_key k2 k
        rw [show decide (k2 = k) = false from by simp [hk]] at heq
        clear hTf hi hTr hb0 hr1
        have hne : i ≠ o := by rintro rfl; rw [Hf.out] at hs; cases hs
        obtain ⟨hm1, hm2⟩ := hmeas hne
        go_wp2
        go_quiet (fail)
        go_wp2
        go_roundw
        case rel =>
          refine ⟨d + 1, hm2, by rw [HR.out], fun d' hd' => ?_, hnx.drewN _⟩
          rcases Nat.lt_or_eq_of_le (Nat.lt_succ_iff.1 hd') with h | h
          · exact hbef d' h
          · rw [h, ← HI.out]; exact ⟨_, hs, hk⟩
        case measure => simp only [intOf]; rw [HR.out, Int.toNat_natCast, Int.toNat_natCast]; exact hm1
end Go.Proofs.Ytoondlbagbgbmaa
