/- conns: Free. -/
import Derived.Test.YtoondlbagbgbmaaRows
import Derived.Test.YtoondlbagbgbmaaBase
import Derived.Test.YtoondlbagbgbmaaProbe
import Derived.Test.YtoondlbagbgbmaaSorted
import Derived.Test.YtoondlbagbgbmaaTab
import Derived.Test.YtoondlbagbgbmaaConns1
import Derived.Test.YtoondlbagbgbmaaGet
namespace Go.Proofs.Ytoondlbagbgbmaa
open Go.RowKit Go.Shelf Go.Proofs.Tab
attribute [local go_sem] Oper.semAt_some

/-- The least channel that is free, from v on; so many are looked at. -/
def freeFrom (M : List Ent) (p q : Int) : Nat → Int → Option Int
  | 0, _ => none
  | f + 1, v => if rightB (p, q, v) then (if (lookK Prod.fst M (p, q, v)).isSome then freeFrom M p q f (v + 1) else some v) else none
def freeOf (M : List Ent) (p q from_ : Int) : Option Int := freeFrom M p q (65537 - max from_ 0).toNat (max from_ 0)
def freeV (o : Option Int) : Value := .tuple #[.int .i64 (o.getD 0), .bool o.isSome]
theorem freeFrom_none {M : List Ent} {p q v : Int} {f : Nat} (h : rightB (p, q, v) = false) : freeFrom M p q f v = none := by
  cases f with
  | zero => rfl
  | succ f => simp [freeFrom, h]
theorem freeFrom_step {M : List Ent} {p q v : Int} (h0 : 0 ≤ v) (h : rightB (p, q, v) = true) : freeFrom M p q (65537 - v).toNat v = if (lookK Prod.fst M (p, q, v)).isSome then freeFrom M p q (65537 - (v + 1)).toNat (v + 1) else some v := by
  have hr := (rightB_iff _).1 h
  simp only at hr
  have : (65537 - v).toNat = (65537 - (v + 1)).toNat + 1 := by omega
  rw [this, freeFrom, if_pos h]
theorem free_nil (p q from_ : Int) (w : World) : Calls Try.prog 21 #[.pointer none, .int .i64 p, .int .i64 q, .int .i64 from_] w fun e w' => e = .returned (.tuple #[.int .i64 0, .bool false]) ∧ Upd No w w' := by
  go_enter Try.func21, Try.ntmps21
  go_wp2
  all_goals
    go_loop [10] (fun _ => True) (fun _ => 0)
    case atStart => trivial
    case round =>
      go_wp2
      go_ret2
      exact ⟨rfl, Upd.refl _ _⟩
theorem right_is {k : Key} {r : Bool} (h : rightB k = r) (w : World) : Calls Try.prog 23 #[.agg #[.int .i64 k.1, .int .i64 k.2.1, .int .i64 k.2.2]] w fun e w' => e = .returned (.bool r) ∧ Upd No w w' := by
  rw [← h]; exact right_calls k w
theorem get_there {b : Nat} {room : Int} {M : List Ent} {k : Key} {r : Bool} (h : (lookK Prod.fst M k).isSome = r) (w : World) (hT : TabIs w b room M) : Calls Try.prog 19 #[.pointer (some ⟨b, 0, none⟩), .agg #[.int .i64 k.1, .int .i64 k.2.1, .int .i64 k.2.2]] w fun e w' => (∃ n, e = .returned (.tuple #[.int .i64 n, .bool r])) ∧ Upd No w w' := by
  refine (get_calls b room M k w hT).mono ?_
  rintro e w' ⟨rfl, hU⟩
  exact ⟨⟨_, by unfold gotV; rw [h]⟩, hU⟩
set_option maxRecDepth 100000 in
set_option maxHeartbeats 1000000 in
theorem free_calls (b : Nat) (room : Int) (M : List Ent) (p q from_ : Int) (w : World) (hT : TabIs w b room M) : Calls Try.prog 21 #[.pointer (some ⟨b, 0, none⟩), .int .i64 p, .int .i64 q, .int .i64 from_] w fun e w' => e = .returned (freeV (freeOf M p q from_)) ∧ Upd No w w' := by
  have hx : ∀ v0 : Int, max from_ 0 = v0 → freeOf M p q from_ = freeFrom M p q (65537 - v0).toNat v0 := fun v0 h => by unfold freeOf; rw [h]
  obtain ⟨r, hr⟩ : ∃ r, r = freeOf M p q from_ := ⟨_, rfl⟩
  rw [← hr] at hx ⊢
  have HX := Lib.hid hx
  have HT := Lib.hid hT
  clear hx hT hr
  go_enter Try.func21, Try.ntmps21
  go_wp2
  all_goals
    go_loopw [10] (fun v wr => ∃ k : Int, 0 ≤ k ∧ v = .int .i64 k ∧ r = freeFrom M p q (65537 - k).toNat k ∧ Upd No w wr) (fun v _ => (65537 - intOf v).toNat)
    case atStart => exact ⟨_, by omega, rfl, HX.out _ (by omega), Upd.refl _ _⟩
    case round =>
      obtain ⟨k, hk, rfl, hrk, hU⟩ := hrel
      have HRK := Lib.hid hrk
      clear hrk
      cases hright : rightB (p, q, k) with
      | false =>
        have hr0 := HRK.out.trans (freeFrom_none hright)
        have hcon := fun w => right_is hright w
        have HR0 := Lib.hid hr0
        clear hr0 hright
        go_wp2_with (go_at_call 23; refine (hcon _).mono ?_; rintro e w1 ⟨rfl, hU1⟩)
        go_ret2
        exact ⟨by rw [HR0.out]; rfl, hU.trans hU1⟩
      | true =>
        have hlt := (rightB_iff _).1 hright
        simp only at hlt
        obtain ⟨_, _, _, _, _, hlt⟩ := hlt
        have hstep := freeFrom_step (M := M) hk hright
        have hcon := fun w => right_is hright w
        have HRT := Lib.hid hright
        clear hright
        cases hl : (lookK Prod.fst M (p, q, k)).isSome with
        | true =>
          rw [hl, if_pos rfl] at hstep
          have hg := fun w hT => @get_there b room M (p, q, k) true hl w hT
          have HS := Lib.hid hstep
          clear hstep hl
          go_wp2_with (first | (go_at_call 23; refine (hcon _).mono ?_; rintro e w1 ⟨rfl, hU1⟩) | (go_at_call 19; refine (hg _ ((HT.out.upd hU (fun h => h)).upd hU1 (fun h => h))).mono ?_; rintro e w2 ⟨⟨n, rfl⟩, hU2⟩))
          go_roundw
          case rel => exact ⟨k + 1, by omega, rfl, HRK.out.trans HS.out, (hU.trans hU1).trans hU2⟩
          case measure => simp [intOf]; omega
        | false =>
          rw [hl, if_neg (by simp)] at hstep
          have hg := fun w hT => @get_there b room M (p, q, k) false hl w hT
          have HS := Lib.hid hstep
          clear hstep hl
          go_wp2_with (first | (go_at_call 23; refine (hcon _).mono ?_; rintro e w1 ⟨rfl, hU1⟩) | (go_at_call 19; refine (hg _ ((HT.out.upd hU (fun h => h)).upd hU1 (fun h => h))).mono ?_; rintro e w2 ⟨⟨n, rfl⟩, hU2⟩))
          go_ret2
          exact ⟨by rw [HRK.out, HS.out]; rfl, (hU.trans hU1).trans hU2⟩
end Go.Proofs.Ytoondlbagbgbmaa
