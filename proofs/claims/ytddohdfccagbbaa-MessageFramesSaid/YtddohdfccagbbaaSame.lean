/- trunklineref01.Same: whether two slices of bytes are alike. -/
import Derived.Test.YtddohdfccagbbaaRows
import Derived.Test.YtddohdfccagbbaaBase
import Derived.Test.YtddohdfccagbbaaBytes
namespace Go.Proofs.Ytddohdfccagbbaa
open Go.RowKit Go.Shelf

theorem same_len (a1 a2 : Option Addr) (n1 n2 c1 c2 : Nat) (w : World) (h : n1 ≠ n2) :
    Calls Try.prog 14 #[.slice a1 n1 c1, .slice a2 n2 c2] w fun e w' => e = .returned (.bool false) ∧ w' = w := by
  have q : ((n1 : Int) != (n2 : Int)) = true := by rw [bne_iff_ne]; omega
  clear h
  go_enter Try.func14, Try.ntmps14
  go_wp2
  go_ret
  exact ⟨rfl, rfl⟩
theorem same_nil (a1 a2 : Option Addr) (c1 c2 : Nat) (w : World) :
    Calls Try.prog 14 #[.slice a1 0 c1, .slice a2 0 c2] w fun e w' => e = .returned (.bool true) ∧ w' = w := by
  go_enter Try.func14, Try.ntmps14
  go_wp2
  go_loop [5, 13] (fun _ i => i = .int .i64 0) (fun _ _ => 0)
  case atStart => rfl
  case round =>
    subst hrel
    go_wp2
    go_ret
    exact ⟨rfl, rfl⟩
set_option maxRecDepth 100000 in
set_option maxHeartbeats 1000000 in
theorem same_row (b1 o1 c1 b2 o2 c2 n : Nat) (l1 l2 : List UInt8) (w : World) (h1 : Bytes w (.slice (some ⟨b1, o1, none⟩) n c1) l1) (h2 : Bytes w (.slice (some ⟨b2, o2, none⟩) n c2) l2) (hn : n ≤ 100000000000) :
    Calls Try.prog 14 #[.slice (some ⟨b1, o1, none⟩) n c1, .slice (some ⟨b2, o2, none⟩) n c2] w fun e w' => e = .returned (.bool (l1 == l2)) ∧ Upd No w w' := by
  obtain ⟨e1, _, _, hb1, hc1⟩ := h1.known
  obtain ⟨e2, _, _, hb2, hc2⟩ := h2.known
  have key : ∀ k, k ≤ n → (∀ j, j < k → l1[j]?.getD 0 = l2[j]?.getD 0) → k < n → l1[k]?.getD 0 ≠ l2[k]?.getD 0 → (l1 == l2) = false := by
    intro k _ _ hk hne
    rw [beq_eq_false_iff_ne]
    rintro rfl
    exact hne rfl
  have all : (∀ j, j < n → l1[j]?.getD 0 = l2[j]?.getD 0) → (l1 == l2) = true := by
    intro h
    rw [beq_iff_eq]
    apply List.ext_getElem (by omega)
    intro j hj1 hj2
    have := h j (by omega)
    simpa [hj1, hj2] using this
  obtain ⟨r, hr⟩ : ∃ r, r = (l1 == l2) := ⟨_, rfl⟩
  rw [← hr] at key all ⊢
  have HK := Lib.hid key
  have HA := Lib.hid all
  have HC1 := Lib.hid hc1
  have HC2 := Lib.hid hc2
  clear key all hr h1 h2 hc1 hc2 e1 e2
  have q : ((n : Int) != (n : Int)) = false := by rw [bne_eq_false_iff_eq]
  go_enter Try.func14, Try.ntmps14
  go_wp2
  go_loopw [5, 13, 16] (fun _ i _ wr => ∃ k : Nat, k ≤ n ∧ i = .int .i64 k ∧ Hid (∀ j, j < k → l1[j]?.getD 0 = l2[j]?.getD 0) ∧ Upd No w wr) (fun _ i _ _ => n - (intOf i).toNat)
  case atStart => exact ⟨0, by omega, rfl, fun j hj => absurd hj (by omega), Upd.refl _ _⟩
  case round =>
    obtain ⟨k, hk, rfl, hz, hU⟩ := hrel
    by_cases hlt : k < n
    · obtain ⟨x, hx⟩ : ∃ x, x = l1[k]?.getD 0 := ⟨_, rfl⟩
      obtain ⟨y, hy⟩ : ∃ y, y = l2[k]?.getD 0 := ⟨_, rfl⟩
      have d1 := hU.cell (HC1.out k hlt) (fun h => h)
      have d2 := hU.cell (HC2.out k hlt) (fun h => h)
      rw [← hx] at d1
      rw [← hy] at d2
      have HX := Lib.hid hx
      have HY := Lib.hid hy
      clear hx hy
      by_cases h0 : x = y
      · have hb : ((x.toNat : Int) != (y.toNat : Int)) = false := by rw [bne_eq_false_iff_eq, h0]
        have H0 := Lib.hid h0
        clear h0
        go_wp2
        go_quiet (fail)
        go_wp2
        go_roundw
        case rel =>
          refine ⟨k + 1, by omega, by go_num, fun j hj => ?_, hU.drewN _⟩
          by_cases e : j = k
          · rw [e, ← HX.out, ← HY.out, H0.out]
          · exact hz.out j (by omega)
        case measure => simp [intOf]; omega
      · have hb : ((x.toNat : Int) != (y.toNat : Int)) = true := by
          rw [bne_iff_ne]
          intro e
          exact h0 (UInt8.toNat_inj.1 (by omega))
        have hr : r = false := HK.out k hk hz.out hlt (by rw [← HX.out, ← HY.out]; exact h0)
        have HR := Lib.hid hr
        clear h0 hr
        go_wp2
        go_quiet (fail)
        go_wp2
        go_ret
        exact ⟨by rw [HR.out]; rfl, hU.drewN _⟩
    · obtain rfl : k = n := by omega
      have hr := HA.out hz.out
      have HR := Lib.hid hr
      clear hr
      go_wp2
      go_ret
      exact ⟨by rw [HR.out]; rfl, hU⟩
theorem same_calls (v1 v2 : Value) (l1 l2 : List UInt8) (w : World) (h1 : Bytes w v1 l1) (h2 : Bytes w v2 l2) (hl : l1.length ≤ 100000000000) :
    Calls Try.prog 14 #[v1, v2] w fun e w' => e = .returned (.bool (l1 == l2)) ∧ Upd No w w' := by
  obtain ⟨a1, c1, e1, _, _, _, z1⟩ := h1.shape
  obtain ⟨a2, c2, e2, _, _, _, z2⟩ := h2.shape
  by_cases hn : l1.length = l2.length
  · by_cases h0 : l1.length = 0
    · have y1 : l1 = [] := List.eq_nil_of_length_eq_zero h0
      have y2 : l2 = [] := List.eq_nil_of_length_eq_zero (by omega)
      subst y1 y2
      rw [e1, e2]
      exact (same_nil a1 a2 c1 c2 w).mono fun e w' ⟨he, hw⟩ => ⟨he, by rw [hw]; exact Upd.refl _ _⟩
    · rcases h1 with ⟨_, h⟩ | ⟨b1, o1, k1, g1, h1⟩
      · rw [h] at h0; exact absurd rfl h0
      · rcases h2 with ⟨_, h⟩ | ⟨b2, o2, k2, g2, h2⟩
        · rw [h] at hn; exact absurd hn h0
        · rw [g1, g2]
          rw [← hn]
          exact same_row b1 o1 k1 b2 o2 k2 l1.length l1 l2 w (.inr ⟨b1, o1, k1, rfl, h1⟩) (by rw [hn]; exact .inr ⟨b2, o2, k2, rfl, h2⟩) hl
  · rw [e1, e2]
    refine (same_len a1 a2 l1.length l2.length c1 c2 w hn).mono fun e w' ⟨he, hw⟩ => ⟨?_, by rw [hw]; exact Upd.refl _ _⟩
    rw [he]
    congr 2
    symm
    rw [beq_eq_false_iff_ne]
    rintro rfl
    exact hn rfl
end Go.Proofs.Ytddohdfccagbbaa
