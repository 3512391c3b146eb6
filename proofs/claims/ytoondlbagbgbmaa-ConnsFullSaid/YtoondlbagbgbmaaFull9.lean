/- The statement ConnsFull: the walk of the law. -/
import Derived.Test.YtoondlbagbgbmaaRows
import Derived.Test.YtoondlbagbgbmaaBase
import Derived.Test.YtoondlbagbgbmaaProbe
import Derived.Test.YtoondlbagbgbmaaSorted
import Derived.Test.YtoondlbagbgbmaaTab
import Derived.Test.YtoondlbagbgbmaaConns1
import Derived.Test.YtoondlbagbgbmaaGet
import Derived.Test.YtoondlbagbgbmaaPut
import Derived.Test.YtoondlbagbgbmaaDrop
import Derived.Test.YtoondlbagbgbmaaFree
import Derived.Test.YtoondlbagbgbmaaOps
import Derived.Test.YtoondlbagbgbmaaSliceK
import Derived.Test.YtoondlbagbgbmaaLaw9
import Derived.Test.YtoondlbagbgbmaaAwake9
namespace Go.Proofs.Ytoondlbagbgbmaa
open Go.RowKit Go.Shelf Go.Proofs.Tab
attribute [local go_sem] Oper.semAt_some

theorem ins_last {e : Ent} {M : List Ent} (h : ∀ x, x ∈ M → before x.1 e.1 = true) : insK Prod.fst e M = M ++ [e] := by
  induction M with
  | nil => rfl
  | cons a M ih =>
    rw [insK, if_pos (h a (by simp)), ih (fun x hx => h x (by simp [hx]))]
    rfl
theorem putOf_last {room : Int} {M : List Ent} {k : Key} {n : Int} (hr : rightB k = true) (h : ∀ x, x ∈ M → before x.1 k = true) (hl : (M.length : Int) < room) : putOf room M k n = (0, M ++ [(k, n)]) := by
  unfold putOf
  have hl2 : lookK Prod.fst M k = none := lookK_none.2 (fun x hx hk => by have := h x hx; rw [hk, before_irrefl] at this; cases this)
  rw [if_neg (by rw [hr]; simp), hl2, if_neg (by simp), if_neg (by omega), ins_last h]
/-- What lies there behind so many puts. -/
def laid (p : Nat) (k : Nat) : List Ent := (List.range k).map fun i => (((p : Int), 0, ((97 * i : Nat) : Int)), (i : Int))
theorem laid_len (p k : Nat) : (laid p k).length = k := by simp [laid]
theorem laid_succ (p k : Nat) : laid p (k + 1) = laid p k ++ [(((p : Int), 0, ((97 * k : Nat) : Int)), (k : Int))] := by simp [laid, List.range_succ]
theorem laid_put (p k : Nat) (room : Int) (hp : p < 8) (hk : k < 64) (hr : (k : Int) < room) : putOf room (laid p k) ((p : Int), 0, 97 * (k : Int)) (k : Int) = (0, laid p (k + 1)) := by
  rw [laid_succ, show (97 * (k : Int)) = ((97 * k : Nat) : Int) from by omega]
  refine putOf_last ((rightB_iff _).2 (by simp only; omega)) (fun x hx => ?_) (by rw [laid_len]; exact hr)
  obtain ⟨i, hi, rfl⟩ := List.mem_map.1 hx
  rw [List.mem_range] at hi
  refine (before_iff _ _).2 (.inr ⟨rfl, .inr ⟨rfl, ?_⟩⟩)
  show ((97 * i : Nat) : Int) < ((97 * k : Nat) : Int)
  omega
theorem laid_full (p k : Nat) (room : Int) (hp : p < 8) (hr : room ≤ (k : Int)) : putOf room (laid p k) ((p : Int), 0, 1) 0 = (9, laid p k) := by
  unfold putOf
  have hl2 : lookK Prod.fst (laid p k) ((p : Int), 0, 1) = none := lookK_none.2 (fun x hx hk => by
    obtain ⟨i, hi, rfl⟩ := List.mem_map.1 hx
    simp only [Prod.mk.injEq, true_and] at hk
    omega)
  have hrt : rightB ((p : Int), 0, 1) = true := (rightB_iff _).2 (by simp only; omega)
  rw [if_neg (by rw [hrt]; simp), hl2, if_neg (by simp), if_pos (by rw [laid_len]; exact hr)]

set_option maxRecDepth 100000 in
set_option maxHeartbeats 1000000 in
theorem full_walk (r q : Nat) (hr : r < 256) (hq : q < 256) (w : World) : Calls Try.prog 6 #[.int .u8 (r : Int), .int .u8 (q : Int)] w fun e w' => e = .returned (.bool true) ∧ Upd No w w' := by
  obtain ⟨n, hn⟩ : ∃ n, n = min r 64 := ⟨_, rfl⟩
  obtain ⟨p, hp⟩ : ∃ p, p = q % 8 := ⟨_, rfl⟩
  have hnr : min (r : Int) 64 = (n : Int) := by omega
  have hpq : (q : Int) % 8 = (p : Int) := by omega
  have hn64 : (n : Int) ≤ 64 := by omega
  have hp8 : p < 8 := by omega
  have hrm : max 0 (min (r : Int) 64) = (n : Int) := by omega
  have HRM := Lib.hid hrm
  have HNR := Lib.hid hnr
  have HPQ := Lib.hid hpq
  clear hrm hnr hpq hn hp
  go_enter Try.func6, Try.ntmps6
  go_wp2_with fail
  refine (awake9 _).mono ?_
  rintro e w1 ⟨rfl, hU1⟩
  go_wp2_with fail
  refine (new_calls (r : Int) _).mono ?_
  rintro e w2 ⟨rfl, hU2, hT2⟩
  rw [HRM.out] at hT2
  have HT2 := Lib.hid hT2
  clear hT2
  go_wp2_with fail
  rw [HNR.out]
  obtain ⟨b, hb⟩ : ∃ b, b = w1.heap.size := ⟨_, rfl⟩
  rw [← hb] at HT2 ⊢
  have hbw : w.heap.size ≤ b := by rw [hb]; exact hU1.size
  have hU12 := hU1.trans hU2
  have HU12 := Lib.hid hU12
  clear hb hU1 hU2 hU12
  go_loopw [24] (fun i wr => ∃ k : Nat, k ≤ n ∧ i = .int .i64 (k : Int) ∧ TabIs wr b (n : Int) (laid p k) ∧ Upd No w wr) (fun i _ => n - (intOf i).toNat)
  case atStart => exact ⟨0, Nat.zero_le _, rfl, HT2.out, HU12.out⟩
  case round =>
    obtain ⟨k, hk, rfl, hT, hU⟩ := hrel
    have HT := Lib.hid hT
    clear hT
    by_cases hlt : k < n
    · have hput := put_is (b := b) (laid_put p k (n : Int) hp8 (by omega) (by omega))
      have hpq := HPQ.out
      have HPUT := Lib.hid hput
      clear hput
      go_wp2_with fail
      clear hpq
      refine (HPUT.out _ HT.out).mono ?_
      rintro e w3 ⟨rfl, hU3, hT3⟩
      have HT3 := Lib.hid hT3
      clear hT3
      go_wp2
      go_roundw
      case rel => exact ⟨k + 1, by omega, by go_num, HT3.out, hU.then hU3 (fun i hi h => by rw [show i = b from h] at hi; omega)⟩
      case measure => simp [intOf]; omega
    · obtain rfl : k = n := by omega
      have hput := put_is (b := b) (laid_full p k (k : Int) hp8 (Int.le_refl _))
      have hlen := laid_len p k
      have HPUT := Lib.hid hput
      have HLEN := Lib.hid hlen
      clear hput hlen hlt hk
      go_wp2_with fail
      refine (get_nil (0, 0, 0) _).mono ?_
      rintro e w3 ⟨rfl, hU3⟩
      go_wp2_with fail
      refine (drop_nil (0, 0, 0) _).mono ?_
      rintro e w4 ⟨rfl, hU4⟩
      go_wp2_with fail
      refine (free_nil 0 0 0 _).mono ?_
      rintro e w5 ⟨rfl, hU5⟩
      have HT5 := Lib.hid (((HT.out.upd hU3 (fun h => h)).upd hU4 (fun h => h)).upd hU5 (fun h => h))
      have hpq := HPQ.out
      go_wp2_with fail
      clear hpq
      refine (HPUT.out _ HT5.out).mono ?_
      rintro e w6 ⟨rfl, hU6, hT6⟩
      have HT6 := Lib.hid hT6
      clear hT6
      go_wp2_with fail
      refine (len_calls _ _ _ _ HT6.out).mono ?_
      rintro e w7 ⟨rfl, rfl⟩
      rw [HLEN.out]
      go_wp2_with fail
      refine (put_nil (0, 0, 0) 0 _).mono ?_
      rintro e w8 ⟨rfl, hU8⟩
      go_wp2_with fail
      refine (len_nil _).mono ?_
      rintro e w9 ⟨rfl, rfl⟩
      go_wp2_with fail
      refine (allL_nil _).mono ?_
      rintro e w10 ⟨v, rfl, hown, hU10⟩
      rcases hown.form with ⟨hv, _⟩ | ⟨g, cap, hv, _⟩
      all_goals
        subst hv
        clear hown
        go_wp2_with fail
        go_ret
        exact ⟨rfl, (((((hU.trans hU3).trans hU4).trans hU5).then hU6 (fun i hi h => by rw [show i = b from h] at hi; omega)).trans hU8).trans hU10⟩
end Go.Proofs.Ytoondlbagbgbmaa
