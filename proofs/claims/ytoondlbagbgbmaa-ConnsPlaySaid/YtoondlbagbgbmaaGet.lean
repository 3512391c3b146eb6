/- conns: Get. -/
import Derived.Test.YtoondlbagbgbmaaRows
import Derived.Test.YtoondlbagbgbmaaBase
import Derived.Test.YtoondlbagbgbmaaProbe
import Derived.Test.YtoondlbagbgbmaaSorted
import Derived.Test.YtoondlbagbgbmaaHome
import Derived.Test.YtoondlbagbgbmaaTab
import Derived.Test.YtoondlbagbgbmaaEq
import Derived.Test.YtoondlbagbgbmaaFind
import Derived.Test.YtoondlbagbgbmaaConns1
import Derived.Deep.RegionHeld3
import Derived.Deep.DrawnRows
namespace Go.Proofs.Ytoondlbagbgbmaa
open Go.RowKit Go.Shelf Go.Proofs.Tab
attribute [local go_sem] Oper.semAt_some
attribute [local go_sem ↓] Go.wp_at_zero Go.wp_at_succ

/-- What Get answers. -/
def gotV (o : Option Ent) : Value := .tuple #[.int .i64 ((o.map Prod.snd).getD 0), .bool o.isSome]
theorem get_nil (k : Key) (w : World) : Calls Try.prog 19 #[.pointer none, .agg #[.int .i64 k.1, .int .i64 k.2.1, .int .i64 k.2.2]] w fun e w' => e = .returned (.tuple #[.int .i64 0, .bool false]) ∧ Upd No w w' := by
  go_enter Try.func19, Try.ntmps19
  go_wp2
  go_ret2
  exact ⟨rfl, (Upd.refl _ w).alloc _⟩
set_option maxRecDepth 100000 in
set_option maxHeartbeats 1000000 in
theorem get_none (b : Nat) (room : Int) (M : List Ent) (k : Key) (w : World) (hT : TabIs w b room M) (hl : lookK Prod.fst M k = none) : Calls Try.prog 19 #[.pointer (some ⟨b, 0, none⟩), .agg #[.int .i64 k.1, .int .i64 k.2.1, .int .i64 k.2.2]] w fun e w' => e = .returned (gotV (none)) ∧ Upd No w w' := by
    obtain ⟨S, hT, hI, hM, hs, _, h1, h2⟩ := hT
    obtain ⟨o, ho, hfree⟩ := tab_free hI hM h1 h2
    have HT := Lib.hid hT
    have HF := Lib.hid hfree
    have KEY : Hid (∀ i, Seek homeOf S k i → S i = lookK Prod.fst M k) := Lib.hid (fun i hf => seek_look hI hM hs hf)
    have HL := Lib.hid hl
    clear hT hfree hI hM hs h1 h2 hl
    go_enter Try.func19, Try.ntmps19
    go_wp2
    go_region_with (go_at_call 25; refine (find_calls b S _ room k _ (by first | exact (HT.out.alloc _) | exact (HT.out.alloc _).alloc _) o ho HF.out).mono ?_; rintro e w1 ⟨i, rfl, hfd, hU⟩; (have hTW : TabAt w1 b S M.length room := TabAt.upd (by first | exact (HT.out.alloc _) | exact (HT.out.alloc _).alloc _) hU (fun h => h)); (obtain ⟨hT0, hT1, hT2, hT3, hT4⟩ := hTW.atNone hfd.lt ((KEY.out i hfd).trans HL.out)); (have hi0 : (0 : Int) ≤ (i : Int) := Int.natCast_nonneg i); (have hi1 : (i : Int) < 128 := Int.ofNat_lt.2 hfd.lt); (try (obtain ⟨hbx1, hbx2⟩ := cells_at (hU.at (block_new2 w (.cells #[.int .i64 k.1, .int .i64 k.2.1, .int .i64 k.2.2] 29) (.cells #[.int .i64 0, .int .i64 0, .int .i64 0, .int .i64 0, .bool false] 56)) (fun h => h)))); (have hW1 : Upd No w w1 := by first | exact ((Upd.refl No w).alloc _).trans hU | exact ((Upd.refl No w).alloc _).drew.trans hU | exact ((Upd.refl No w).alloc _).drew.drew.trans hU | exact (((Upd.refl No w).alloc _).alloc _).trans hU | exact (((Upd.refl No w).alloc _).alloc _).drew.trans hU | exact (((Upd.refl No w).alloc _).alloc _).drew.drew.trans hU); (have hbl : b < w1.heap.size := hTW.lt); (have hbn : b ≠ w1.heap.size := Nat.ne_of_lt hTW.lt); clear hTW)
    all_goals
      go_wp2
      go_quiet (fail)
      go_wp2
      go_ret2
      refine ⟨rfl, Upd.drewN ?_ _⟩
      first
        | ((with_reducible refine Upd.alloc ?_ _); exact hW1)
        | ((with_reducible refine Upd.set5 ?_ ?_ _ _ _ _ _); exact hW1; exact .inl (Nat.le_succ _))
set_option maxRecDepth 100000 in
set_option maxHeartbeats 1000000 in
theorem get_some (b : Nat) (room : Int) (M : List Ent) (k : Key) (n : Int) (w : World) (hT : TabIs w b room M) (hl : lookK Prod.fst M k = some (k, n)) : Calls Try.prog 19 #[.pointer (some ⟨b, 0, none⟩), .agg #[.int .i64 k.1, .int .i64 k.2.1, .int .i64 k.2.2]] w fun e w' => e = .returned (gotV (some (k, n))) ∧ Upd No w w' := by
    obtain ⟨S, hT, hI, hM, hs, _, h1, h2⟩ := hT
    obtain ⟨o, ho, hfree⟩ := tab_free hI hM h1 h2
    have HT := Lib.hid hT
    have HF := Lib.hid hfree
    have KEY : Hid (∀ i, Seek homeOf S k i → S i = lookK Prod.fst M k) := Lib.hid (fun i hf => seek_look hI hM hs hf)
    have HL := Lib.hid hl
    clear hT hfree hI hM hs h1 h2 hl
    go_enter Try.func19, Try.ntmps19
    go_wp2
    go_region_with (go_at_call 25; refine (find_calls b S _ room k _ (by first | exact (HT.out.alloc _) | exact (HT.out.alloc _).alloc _) o ho HF.out).mono ?_; rintro e w1 ⟨i, rfl, hfd, hU⟩; (have hTW : TabAt w1 b S M.length room := TabAt.upd (by first | exact (HT.out.alloc _) | exact (HT.out.alloc _).alloc _) hU (fun h => h)); (obtain ⟨hT0, hT1, hT2, hT3, hT4⟩ := hTW.atSome hfd.lt ((KEY.out i hfd).trans HL.out)); (have hi0 : (0 : Int) ≤ (i : Int) := Int.natCast_nonneg i); (have hi1 : (i : Int) < 128 := Int.ofNat_lt.2 hfd.lt); (try (obtain ⟨hbx1, hbx2⟩ := cells_at (hU.at (block_new2 w (.cells #[.int .i64 k.1, .int .i64 k.2.1, .int .i64 k.2.2] 29) (.cells #[.int .i64 0, .int .i64 0, .int .i64 0, .int .i64 0, .bool false] 56)) (fun h => h)))); (have hW1 : Upd No w w1 := by first | exact ((Upd.refl No w).alloc _).trans hU | exact ((Upd.refl No w).alloc _).drew.trans hU | exact ((Upd.refl No w).alloc _).drew.drew.trans hU | exact (((Upd.refl No w).alloc _).alloc _).trans hU | exact (((Upd.refl No w).alloc _).alloc _).drew.trans hU | exact (((Upd.refl No w).alloc _).alloc _).drew.drew.trans hU); (have hbl : b < w1.heap.size := hTW.lt); (have hbn : b ≠ w1.heap.size := Nat.ne_of_lt hTW.lt); clear hTW)
    all_goals
      go_wp2
      go_quiet (fail)
      go_wp2
      go_ret2
      refine ⟨rfl, Upd.drewN ?_ _⟩
      first
        | ((with_reducible refine Upd.alloc ?_ _); exact hW1)
        | ((with_reducible refine Upd.set5 ?_ ?_ _ _ _ _ _); exact hW1; exact .inl (Nat.le_succ _))
theorem get_calls (b : Nat) (room : Int) (M : List Ent) (k : Key) (w : World) (hT : TabIs w b room M) : Calls Try.prog 19 #[.pointer (some ⟨b, 0, none⟩), .agg #[.int .i64 k.1, .int .i64 k.2.1, .int .i64 k.2.2]] w fun e w' => e = .returned (gotV (lookK Prod.fst M k)) ∧ Upd No w w' := by
  cases hl : lookK Prod.fst M k with
  | none => exact get_none b room M k w hT hl
  | some x =>
    obtain ⟨xk, n⟩ := x
    have hk := ((lookK_some hT.sorted).1 hl).2
    simp only at hk
    subst hk
    exact get_some b room M xk n w hT hl
end Go.Proofs.Ytoondlbagbgbmaa
