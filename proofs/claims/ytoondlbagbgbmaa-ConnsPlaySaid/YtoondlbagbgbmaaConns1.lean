/- conns: Right, New, Len. -/
import Derived.Test.YtoondlbagbgbmaaRows
import Derived.Test.YtoondlbagbgbmaaBase
import Derived.Test.YtoondlbagbgbmaaProbe
import Derived.Test.YtoondlbagbgbmaaSorted
import Derived.Test.YtoondlbagbgbmaaHome
import Derived.Test.YtoondlbagbgbmaaTab
import Derived.Test.YtoondlbagbgbmaaEq
import Derived.Test.YtoondlbagbgbmaaFind
import Derived.BigGuardPart
namespace Go.Proofs.Ytoondlbagbgbmaa
open Go.RowKit Go.Shelf Go.Proofs.Tab
attribute [local go_sem] Oper.semAt_some

theorem ret_bool {a b : Bool} (h : a = b) : Ending.returned (.bool a) = .returned (.bool b) := by rw [h]
theorem right_calls (k : Key) (w : World) : Calls Try.prog 23 #[.agg #[.int .i64 k.1, .int .i64 k.2.1, .int .i64 k.2.2]] w fun e w' => e = .returned (.bool (rightB k)) ∧ Upd No w w' := by
  go_enter Try.func23, Try.ntmps23
  go_wp2
  all_goals (go_ret; exact ⟨ret_bool (by rw [Bool.eq_iff_iff, rightB_iff]; first | (simp; omega) | simp | omega), (Upd.refl _ w).alloc _⟩)
theorem zero_tab (w : World) : (zeroValue 59).run Try.prog w = .ok (.agg (tabRow (fun _ => none) 0 0)) w := by kernel_rfl
set_option maxRecDepth 100000 in
set_option maxHeartbeats 1000000 in
theorem new_table (room : Int) (w : World) : Calls Try.prog 8 #[.int .i64 room] w fun e w' => e = .returned (.pointer (some ⟨w.heap.size, 0, none⟩)) ∧ Upd No w w' ∧ TabAt w' w.heap.size (fun _ => none) 0 (max 0 (min room 64)) := by
  have hz := zero_tab
  have hs := tab_size (fun _ => none) 0 0
  have hr : ∀ r : Int, (tabRow (fun _ => none) 0 0).setIfInBounds 641 (.int .i64 r) = tabRow (fun _ => none) 0 r := fun r => tab_room _ _ _ r
  go_enter Try.func8, Try.ntmps8
  go_wp2
  all_goals (go_ret; refine ⟨rfl, (Upd.refl _ w).alloc _, ?_⟩)
  · rw [show max 0 (min room 64) = 64 from by omega]; exact block_new w _
  · rw [show max 0 (min room 64) = room from by omega]; exact block_new w _
  · rw [show max 0 (min room 64) = 0 from by omega]; exact block_new w _

/-- A table that holds the entries M, in order. -/
def TabIs (w : World) (b : Nat) (room : Int) (M : List Ent) : Prop :=
  ∃ S, TabAt w b S M.length room ∧ TInv homeOf S ∧ (∀ e, e ∈ M ↔ Holds S e) ∧ Sorted Prod.fst M ∧ (∀ e, e ∈ M → rightB e.1 = true) ∧ (M.length : Int) ≤ room ∧ room ≤ 64
theorem TabIs.upd {P : Nat → Prop} {w w' : World} {b : Nat} {room : Int} {M : List Ent} (h : TabIs w b room M) (hU : Upd P w w') (hb : ¬ P b) : TabIs w' b room M := by
  obtain ⟨S, h1, h2⟩ := h
  exact ⟨S, h1.upd hU hb, h2⟩
theorem TabIs.lt {w : World} {b : Nat} {room : Int} {M : List Ent} (h : TabIs w b room M) : b < w.heap.size := by
  obtain ⟨S, h1, h2⟩ := h
  exact h1.lt
theorem TabIs.sorted {w : World} {b : Nat} {room : Int} {M : List Ent} (h : TabIs w b room M) : Sorted Prod.fst M := by
  obtain ⟨S, h1, h2, h3, h4, _⟩ := h
  exact h4
theorem TabIs.right {w : World} {b : Nat} {room : Int} {M : List Ent} (h : TabIs w b room M) : ∀ e, e ∈ M → rightB e.1 = true := by
  obtain ⟨S, h1, h2, h3, h4, h5, _⟩ := h
  exact h5
theorem TabIs.le {w : World} {b : Nat} {room : Int} {M : List Ent} (h : TabIs w b room M) : (M.length : Int) ≤ room ∧ room ≤ 64 := by
  obtain ⟨S, h1, h2, h3, h4, h5, h6⟩ := h
  exact h6
theorem new_calls (room : Int) (w : World) : Calls Try.prog 8 #[.int .i64 room] w fun e w' => e = .returned (.pointer (some ⟨w.heap.size, 0, none⟩)) ∧ Upd No w w' ∧ TabIs w' w.heap.size (max 0 (min room 64)) [] := by
  refine (new_table room w).mono ?_
  rintro e w' ⟨rfl, hU, hT⟩
  refine ⟨rfl, hU, _, hT, ⟨(fun i e _ h => by cases h), (fun i j e f _ _ h => by cases h)⟩, (fun e => ⟨(fun h => by cases h), (fun ⟨i, _, h⟩ => by cases h)⟩), List.Pairwise.nil, (fun e h => by cases h), ?_, ?_⟩
  · simp only [List.length_nil]; omega
  · omega
theorem len_calls (b : Nat) (room : Int) (M : List Ent) (w : World) (hT : TabIs w b room M) : Calls Try.prog 14 #[.pointer (some ⟨b, 0, none⟩)] w fun e w' => e = .returned (.int .i64 (M.length : Int)) ∧ w = w' := by
  obtain ⟨S, hT, _⟩ := hT
  have hl := hT.len
  clear hT
  go_enter Try.func14, Try.ntmps14
  go_wp2
  go_ret
  exact ⟨rfl, rfl⟩
/-- Where the search for a key ends, in a table. -/
theorem tab_free {room : Int} {M : List Ent} {S : Nat → Option Ent} (hI : TInv homeOf S) (hM : ∀ e, e ∈ M ↔ Holds S e) (h1 : (M.length : Int) ≤ room) (h2 : room ≤ 64) : ∃ o, o < 128 ∧ S o = none :=
  free_slot hI.uniq M (fun e he => (hM e).2 he) (by omega)
theorem seek_look {M : List Ent} {S : Nat → Option Ent} (hI : TInv homeOf S) (hM : ∀ e, e ∈ M ↔ Holds S e) (hs : Sorted Prod.fst M) {k : Key} {i : Nat} (hf : Seek homeOf S k i) : S i = lookK Prod.fst M k := by
  cases hl : lookK Prod.fst M k with
  | none => exact found_none hf (fun j n hj he => lookK_none.1 hl _ ((hM _).2 ⟨j, hj, he⟩) rfl)
  | some x =>
    obtain ⟨hx, hk⟩ := (lookK_some hs).1 hl
    obtain ⟨j, hj, he⟩ := (hM _).1 hx
    obtain ⟨xk, xn⟩ := x
    simp only at hk
    subst hk
    rw [found_there hI hf hj he]
    exact he
theorem len_nil (w : World) : Calls Try.prog 14 #[.pointer none] w fun e w' => e = .returned (.int .i64 0) ∧ w = w' := by
  go_enter Try.func14, Try.ntmps14
  go_wp2
  go_ret
  exact ⟨rfl, rfl⟩
end Go.Proofs.Ytoondlbagbgbmaa
