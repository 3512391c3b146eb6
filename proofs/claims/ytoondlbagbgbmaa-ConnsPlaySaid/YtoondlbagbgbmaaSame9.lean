/- trunklinelaw09.same: are entries alike? -/
import Derived.Test.YtoondlbagbgbmaaRows
import Derived.Test.YtoondlbagbgbmaaBase
import Derived.Test.YtoondlbagbgbmaaProbe
import Derived.Test.YtoondlbagbgbmaaSorted
import Derived.Test.YtoondlbagbgbmaaTab
import Derived.Test.YtoondlbagbgbmaaEq
import Derived.Test.YtoondlbagbgbmaaConns1
import Derived.Test.YtoondlbagbgbmaaOps
import Derived.Test.YtoondlbagbgbmaaSliceK
import Derived.Test.YtoondlbagbgbmaaLaw9
namespace Go.Proofs.Ytoondlbagbgbmaa
open Go.RowKit Go.Shelf Go.Proofs.Tab
attribute [local go_sem] Oper.semAt_some

theorem run_eql_ent (a b : Ent) (w : World) : (binOp .eql 66 (.agg #[.int .i64 a.1.1, .int .i64 a.1.2.1, .int .i64 a.1.2.2, .int .i64 a.2]) (.agg #[.int .i64 b.1.1, .int .i64 b.1.2.1, .int .i64 b.1.2.2, .int .i64 b.2])).run Try.prog w = .ok (.bool (decide (a = b))) w := by
  have hk : ∀ w, (Op.equalIn 9999 29 (.agg #[.int .i64 a.1.1, .int .i64 a.1.2.1, .int .i64 a.1.2.2]) (.agg #[.int .i64 b.1.1, .int .i64 b.1.2.1, .int .i64 b.1.2.2])).run Try.prog w = .ok (decide (a.1 = b.1)) w := fun w => by
    rw [run_equalIn_struct w 9998 29 _ _ (by kernel_rfl) (by kernel_rfl)]
    simp [go_sem, Try.underlying29]
    obtain ⟨⟨a1, a2, a3⟩, an⟩ := a
    obtain ⟨⟨b1, b2, b3⟩, bn⟩ := b
    by_cases h1 : a1 = b1 <;> by_cases h2 : a2 = b2 <;> by_cases h3 : a3 = b3 <;> simp [h1, h2, h3]
  have hs : (sizeOf 29).run Try.prog w = .ok 3 w := by kernel_rfl
  have ha : (isAgg 29).run Try.prog w = .ok true w := by kernel_rfl
  rw [run_eql_struct, run_equalIn_struct w 9999 66 _ _ (by kernel_rfl) (by kernel_rfl)]
  simp [go_sem, Try.underlying66, hk]
  obtain ⟨⟨a1, a2, a3⟩, an⟩ := a
  obtain ⟨⟨b1, b2, b3⟩, bn⟩ := b
  by_cases h1 : a1 = b1 <;> by_cases h2 : a2 = b2 <;> by_cases h3 : a3 = b3 <;> by_cases h4 : an = bn <;> simp [h1, h2, h3, h4]
theorem run_neq_ent (a b : Ent) (w : World) : (binOp .neq 66 (.agg #[.int .i64 a.1.1, .int .i64 a.1.2.1, .int .i64 a.1.2.2, .int .i64 a.2]) (.agg #[.int .i64 b.1.1, .int .i64 b.1.2.1, .int .i64 b.1.2.2, .int .i64 b.2])).run Try.prog w = .ok (.bool (!decide (a = b))) w := by
  have h := run_eql_ent a b w
  simp only [binOp, Sem.run_bind, Sem.run_pure] at h ⊢
  cases hq : (Op.equal 66 (.agg #[.int .i64 a.1.1, .int .i64 a.1.2.1, .int .i64 a.1.2.2, .int .i64 a.2]) (.agg #[.int .i64 b.1.1, .int .i64 b.1.2.1, .int .i64 b.1.2.2, .int .i64 b.2])).run Try.prog w with
  | ok r w1 => simp only [hq, Result.andThen_ok] at h ⊢; simp_all
  | halt x w1 => simp [hq, Result.andThen] at h
set_option maxRecDepth 100000 in
set_option maxHeartbeats 1000000 in
theorem same9_calls (v1 v2 : Value) (l1 l2 : List Ent) (w : World) (h1 : SlK entE w v1 l1) (h2 : SlK entE w v2 l2) (hl1 : l1.length ≤ 1000000) (hl2 : l2.length ≤ 1000000) :
    Calls Try.prog 13 #[v1, v2] w fun e w' => e = .returned (.bool (decide (l1 = l2))) ∧ Upd No w w' := by
  by_cases hne : l1.length = l2.length
  · by_cases h0 : l1 = []
    · subst h0
      obtain rfl : l2 = [] := List.eq_nil_of_length_eq_zero hne.symm
      obtain ⟨a1, c1, rfl, _, _, _, _⟩ := h1.shape
      obtain ⟨a2, c2, rfl, _, _, _, _⟩ := h2.shape
      clear h1 h2 hne
      go_enter Try.func13, Try.ntmps13
      go_wp2
      go_loop [13] (fun i => i = .int .i64 0) (fun _ => 0)
      case atStart => rfl
      case round =>
        obtain rfl := hrel
        go_wp2
        go_ret
        exact ⟨rfl, Upd.refl _ _⟩
    · obtain ⟨b1, off1, cap1, rfl, hc1, hm1, hb1, r1⟩ := h1.known entEnc (i := 0) (x := l1[0]'(List.length_pos_iff.2 h0)) (List.getElem?_eq_getElem _)
      have h02 : 0 < l2.length := by rw [← hne]; exact List.length_pos_iff.2 h0
      obtain ⟨b2, off2, cap2, rfl, hc2, hm2, hb2, r2⟩ := h2.known entEnc (i := 0) (x := l2[0]) (List.getElem?_eq_getElem _)
      have k1 := (h1.at entEnc).2.2.2.2
      have k2 := (h2.at entEnc).2.2.2.2
      have K1 := Lib.hid k1
      have K2 := Lib.hid k2
      have hd : ((l1.length : Int) != (l2.length : Int)) = false := by simp [hne]
      have HNE := Lib.hid hne
      have hge1 : (l1.length : Int) ≤ (l2.length : Int) := by omega
      have hm1i : cap1 ≤ 9223372036854775807 := by unfold maxLen at hm1; omega
      have hm2i : cap2 ≤ 9223372036854775807 := by unfold maxLen at hm2; omega
      clear r1 r2
      clear hne h0 k1 k2 h1 h2 hm1 hm2
      go_enter Try.func13, Try.ntmps13
      go_wp2
      go_loopw [13] (fun i wr => ∃ k : Nat, k ≤ l1.length ∧ i = .int .i64 (k : Int) ∧ l1.take k = l2.take k ∧ Upd No w wr) (fun i _ => l1.length - (intOf i).toNat)
      case atStart => exact ⟨0, Nat.zero_le _, rfl, rfl, Upd.refl _ _⟩
      case round =>
        obtain ⟨k, hk, rfl, htk, hU⟩ := hrel
        have HTK := Lib.hid htk
        clear htk
        by_cases hlt : k < l1.length
        · have hlt2 : k < l2.length := by rw [← HNE.out]; exact hlt
          obtain ⟨x, hx⟩ : ∃ x, x = l1[k] := ⟨_, rfl⟩
          obtain ⟨y, hy⟩ : ∃ y, y = l2[k] := ⟨_, rfl⟩
          have hx1 : l1[k]? = some x := by rw [hx]; exact List.getElem?_eq_getElem hlt
          have hy1 : l2[k]? = some y := by rw [hy]; exact List.getElem?_eq_getElem hlt2
          have c0 := fun j hj v (hv : (entE x)[j]? = some v) => hU.cell ((K1.out k x hx1 j hj).trans hv) (fun h => h)
          have d0 := fun j hj v (hv : (entE y)[j]? = some v) => hU.cell ((K2.out k y hy1 j hj).trans hv) (fun h => h)
          have x0 := c0 0 (by omega) _ rfl
          have x1 := c0 1 (by omega) _ rfl
          have x2 := c0 2 (by omega) _ rfl
          have x3 := c0 3 (by omega) _ rfl
          have y0 := d0 0 (by omega) _ rfl
          have y1 := d0 1 (by omega) _ rfl
          have y2 := d0 2 (by omega) _ rfl
          have y3 := d0 3 (by omega) _ rfl
          simp only [Nat.add_zero] at x0 y0
          have hk0 : (0 : Int) ≤ (k : Int) := by omega
          have hk1 : (k : Int) < (l1.length : Int) := by omega
          have hk2 : (k : Int) < (l2.length : Int) := by omega
          have ht1 : l1.take (k + 1) = l1.take k ++ [x] := by rw [List.take_succ_eq_append_getElem hlt, ← hx]
          have ht2 : l2.take (k + 1) = l2.take k ++ [y] := by rw [List.take_succ_eq_append_getElem hlt2, ← hy]
          have HT1 := Lib.hid ht1
          have HT2 := Lib.hid ht2
          by_cases hxy : x = y
          · have heq := run_neq_ent x y
            rw [show (!decide (x = y)) = false from by simp [hxy]] at heq
            have HXY := Lib.hid hxy
            clear c0 d0 hx hy hx1 hy1 ht1 ht2 hxy
            go_wp2
            go_quiet (fail)
            go_wp2
            go_roundw
            case rel => exact ⟨k + 1, by omega, by go_num, by rw [HT1.out, HT2.out, HTK.out, HXY.out], hU.drewN _⟩
            case measure => simp [intOf]; omega
          · have heq := run_neq_ent x y
            rw [show (!decide (x = y)) = true from by simp [hxy]] at heq
            have hq : decide (l1 = l2) = false := by
              rw [decide_eq_false_iff_not]
              rintro h
              rw [h] at hx1
              rw [hx1] at hy1
              exact hxy (Option.some.inj hy1)
            have HQ := Lib.hid hq
            clear c0 d0 hx hy hx1 hy1 ht1 ht2 hxy hq
            go_wp2
            go_quiet (fail)
            go_wp2
            go_ret
            exact ⟨ret_bool HQ.out.symm, hU.drewN _⟩
        · obtain rfl : k = l1.length := by omega
          have hq : decide (l1 = l2) = true := by
            rw [decide_eq_true_iff]
            have := HTK.out
            rw [List.take_length] at this
            rw [this, HNE.out, List.take_length]
          have HQ := Lib.hid hq
          clear hlt hk hq
          go_wp2
          go_ret
          exact ⟨ret_bool HQ.out.symm, hU⟩
  · obtain ⟨a1, c1, rfl, _, _, _, _⟩ := h1.shape
    obtain ⟨a2, c2, rfl, _, _, _, _⟩ := h2.shape
    have hd : ((l1.length : Int) != (l2.length : Int)) = true := by rw [bne_iff_ne]; omega
    have hq : decide (l1 = l2) = false := by rw [decide_eq_false_iff_not]; rintro rfl; exact hne rfl
    rw [hq]
    clear hne hq h1 h2
    go_enter Try.func13, Try.ntmps13
    go_wp2
    go_ret
    exact ⟨rfl, Upd.refl _ _⟩
end Go.Proofs.Ytoondlbagbgbmaa
