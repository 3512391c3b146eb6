/- cmp.Compare, cmp.Or; compare and Before of conns. -/
import Derived.Test.YtoondlbagbgbmaaRows
import Derived.Test.YtoondlbagbgbmaaBase
import Derived.Test.YtoondlbagbgbmaaProbe
import Derived.Test.YtoondlbagbgbmaaSorted
import Derived.Test.YtoondlbagbgbmaaConns1
import Derived.StillTailTactics
import Derived.Deep.RegionHeld3
namespace Go.Proofs.Ytoondlbagbgbmaa
open Go.RowKit Go.Shelf Go.Proofs.Tab
attribute [local go_sem] Oper.semAt_some

theorem isNaN_calls (a : Int) (w : World) : Calls Try.prog 47 #[.int .i64 a] w fun e w' => e = .returned (.bool false) ∧ w' = w := by
  go_enter Try.func47, Try.ntmps47
  go_wp2
  go_ret
  exact ⟨rfl, rfl⟩
/-- cmp.Compare. -/
def cmpI (a b : Int) : Int := if a < b then -1 else if b < a then 1 else 0
theorem compare_calls (a b : Int) (w : World) : Calls Try.prog 36 #[.int .i64 a, .int .i64 b] w fun e w' => e = .returned (.int .i64 (cmpI a b)) ∧ w' = w := by
  unfold cmpI
  go_enter Try.func36, Try.ntmps36
  go_wp2_with (go_at_call 47; refine (isNaN_calls _ _).mono ?_; rintro e w' ⟨rfl, rfl⟩)
  all_goals (go_ret; exact ⟨rfl, rfl⟩)
def orI (a b c : Int) : Int := if a = 0 then if b = 0 then c else b else a
theorem or_calls (a b c : Int) (g : Nat) (w : World) (h : w.heap[g]? = some (.cells #[.int .i64 a, .int .i64 b, .int .i64 c] 3 (0, 0))) : Calls Try.prog 35 #[.slice (some ⟨g, 0, none⟩) 3 3] w fun e w' => e = .returned (.int .i64 (orI a b c)) ∧ w' = w := by
  have hc := cells_at h
  have h0 : w.cell? ⟨g, 0, none⟩ = some (.int .i64 a) := hc.1 0
  have h1 : w.cell? ⟨g, 1, none⟩ = some (.int .i64 b) := hc.1 1
  have h2 : w.cell? ⟨g, 2, none⟩ = some (.int .i64 c) := hc.1 2
  clear hc h
  by_cases ha : a = 0
  · subst ha
    by_cases hb : b = 0
    · subst hb
      rw [show orI 0 0 c = c from by simp [orI]]
      by_cases hc : c = 0
      · subst hc
        go_enter Try.func35, Try.ntmps35
        go_wp2
        refine wp_loop_rounds 4 ?_
        rw [rounds_succ]
        go_wp2
        rw [rounds_succ]
        go_wp2
        rw [rounds_succ]
        go_wp2
        rw [rounds_succ]
        go_wp2
        go_ret
        exact ⟨rfl, rfl⟩
      · have hc' : (c != 0) = true := by simpa using hc
        clear hc
        go_enter Try.func35, Try.ntmps35
        go_wp2
        refine wp_loop_rounds 4 ?_
        rw [rounds_succ]
        go_wp2
        rw [rounds_succ]
        go_wp2
        rw [rounds_succ]
        go_wp2
        go_ret
        exact ⟨rfl, rfl⟩
    · rw [show orI 0 b c = b from by simp [orI, hb]]
      have hb' : (b != 0) = true := by simpa using hb
      clear hb
      go_enter Try.func35, Try.ntmps35
      go_wp2
      refine wp_loop_rounds 4 ?_
      rw [rounds_succ]
      go_wp2
      rw [rounds_succ]
      go_wp2
      go_ret
      exact ⟨rfl, rfl⟩
  · rw [show orI a b c = a from by simp [orI, ha]]
    have ha' : (a != 0) = true := by simpa using ha
    clear ha
    go_enter Try.func35, Try.ntmps35
    go_wp2
    refine wp_loop_rounds 4 ?_
    rw [rounds_succ]
    go_wp2
    go_ret
    exact ⟨rfl, rfl⟩
/-- How keys lie to each other. -/
def cmpK (a b : Key) : Int := orI (cmpI a.1 b.1) (cmpI a.2.1 b.2.1) (cmpI a.2.2 b.2.2)
theorem cmpK_lt (a b : Key) : decide (cmpK a b < 0) = before a b := by
  rw [Bool.eq_iff_iff, decide_eq_true_iff, before_iff]
  unfold cmpK orI cmpI
  repeat' split
  all_goals omega
theorem lit_cell (w : World) (d : Nat) (a : Addr) : World.cell? { heap := w.heap, tape := w.tape, drawn := d, os := w.os, output := w.output } a = w.cell? a := rfl
section
attribute [local go_sem] lit_cell
set_option maxRecDepth 100000 in
set_option maxHeartbeats 1000000 in
theorem keys_compare (a b : Key) (w : World) : Calls Try.prog 29 #[.agg #[.int .i64 a.1, .int .i64 a.2.1, .int .i64 a.2.2], .agg #[.int .i64 b.1, .int .i64 b.2.1, .int .i64 b.2.2]] w fun e w' => e = .returned (.int .i64 (cmpK a b)) ∧ Upd No w w' ∧ w.drawn ≤ w'.drawn := by
  go_enter Try.func29, Try.ntmps29
  go_wp2
  have hA := block_old (block_new w (.cells #[.int .i64 a.1, .int .i64 a.2.1, .int .i64 a.2.2] 29)) (.cells #[.int .i64 b.1, .int .i64 b.2.1, .int .i64 b.2.2] 29)
  have hB := block_new2 w (.cells #[.int .i64 a.1, .int .i64 a.2.1, .int .i64 a.2.2] 29) (.cells #[.int .i64 b.1, .int .i64 b.2.1, .int .i64 b.2.2] 29)
  have hU : Upd No w _ := ((Upd.refl _ w).alloc (.cells #[.int .i64 a.1, .int .i64 a.2.1, .int .i64 a.2.2] 29)).alloc (.cells #[.int .i64 b.1, .int .i64 b.2.1, .int .i64 b.2.2] 29)
  have hD : w.drawn ≤ ((w.alloc (.cells #[.int .i64 a.1, .int .i64 a.2.1, .int .i64 a.2.2] 29)).alloc (.cells #[.int .i64 b.1, .int .i64 b.2.1, .int .i64 b.2.2] 29)).drawn := Nat.le_refl _
  generalize hW : (w.alloc (.cells #[.int .i64 a.1, .int .i64 a.2.1, .int .i64 a.2.2] 29)).alloc (.cells #[.int .i64 b.1, .int .i64 b.2.1, .int .i64 b.2.2] 29) = W at *
  have cA := cells_at hA
  have cB := cells_at hB
  have a0 := cA.1 0
  have a1 := cA.1 1
  have a2 := cA.1 2
  have b0 := cB.1 0
  have b1 := cB.1 1
  have b2 := cB.1 2
  clear hW hA hB cA cB
  go_still_tail 15, (by kernel_rfl)
  still_call (compare_calls _ _ _)
  repeat still_step
  still_call (compare_calls _ _ _)
  repeat still_step
  still_call (compare_calls _ _ _)
  repeat still_step
  refine wpStill_nil ?_
  change wpList _ _ _ _ _ W.drew
  have hU2 : Upd No w W.drew := hU.drew
  have hD2 : w.drawn ≤ W.drew.drawn := Nat.le_succ_of_le hD
  generalize W.drew = W2 at *
  clear a0 a1 a2 b0 b1 b2 hU hD
  go_wp2_with (go_at_call 35; refine (or_calls _ _ _ _ _ (by first | exact block_new W2 _ | exact block_new _ _)).mono ?_; rintro e w' ⟨rfl, rfl⟩)
  go_ret
  exact ⟨rfl, hU2.alloc _, hD2⟩
end
theorem before_calls (a b : Key) (w : World) : Calls Try.prog 15 #[.agg #[.int .i64 a.1, .int .i64 a.2.1, .int .i64 a.2.2], .agg #[.int .i64 b.1, .int .i64 b.2.1, .int .i64 b.2.2]] w fun e w' => e = .returned (.bool (before a b)) ∧ Upd No w w' := by
  rw [← cmpK_lt]
  go_enter Try.func15, Try.ntmps15
  go_wp2_with (go_at_call 29; refine (keys_compare a b _).mono ?_; rintro e w1 ⟨rfl, hU, _⟩)
  all_goals (go_ret; exact ⟨rfl, (((Upd.refl _ w).alloc _).alloc _).trans hU⟩)
/-- A slot in use, as cells. -/
def slotE (e : Ent) : List Value := [.int .i64 e.1.1, .int .i64 e.1.2.1, .int .i64 e.1.2.2, .int .i64 e.2, .bool true]
theorem slots_compare (a b : Ent) (w : World) : Calls Try.prog 28 #[.agg #[.int .i64 a.1.1, .int .i64 a.1.2.1, .int .i64 a.1.2.2, .int .i64 a.2, .bool true], .agg #[.int .i64 b.1.1, .int .i64 b.1.2.1, .int .i64 b.1.2.2, .int .i64 b.2, .bool true]] w fun e w' => e = .returned (.int .i64 (cmpK a.1 b.1)) ∧ Upd No w w' ∧ w.drawn ≤ w'.drawn := by
  go_enter Try.func28, Try.ntmps28
  go_wp2_with (go_at_call 29; refine (keys_compare a.1 b.1 _).mono ?_; rintro e w1 ⟨rfl, hU, hD⟩)
  go_ret
  exact ⟨rfl, (((Upd.refl _ w).alloc _).alloc _).trans hU, hD⟩
end Go.Proofs.Ytoondlbagbgbmaa
