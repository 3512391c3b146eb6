/- trunklineref09, the document's answer: New, Right, Before, At, Get, Free. -/
import Derived.Test.YtoondlbagbgbmaaRows
import Derived.Test.YtoondlbagbgbmaaBase
import Derived.Test.YtoondlbagbgbmaaProbe
import Derived.Test.YtoondlbagbgbmaaSorted
import Derived.Test.YtoondlbagbgbmaaTab
import Derived.Test.YtoondlbagbgbmaaEq
import Derived.Test.YtoondlbagbgbmaaConns1
import Derived.Test.YtoondlbagbgbmaaGet
import Derived.Test.YtoondlbagbgbmaaFree
import Derived.Test.YtoondlbagbgbmaaOps
import Derived.Test.YtoondlbagbgbmaaSliceK
import Derived.Test.YtoondlbagbgbmaaLaw9
namespace Go.Proofs.Ytoondlbagbgbmaa
open Go.RowKit Go.Shelf Go.Proofs.Tab
attribute [local go_sem] Oper.semAt_some

/-- The document's table: a list, and room. -/
def RefIs (w : World) (g : Nat) (room : Int) (M : List Ent) : Prop :=
  ∃ v, w.heap[g]? = some (.cells #[v, .int .i64 room] 49 (0, 0)) ∧ OwnK entE 66 4 w (g + 1) v M
theorem RefIs.upd {w w' : World} {g : Nat} {room : Int} {M : List Ent} {S : Nat → Prop} (h : RefIs w g room M) (hU : Upd S w w') (hS : ∀ k, S k → k < g) : RefIs w' g room M := by
  obtain ⟨v, h1, h2⟩ := h
  refine ⟨v, hU.at h1 (fun e => by have := hS _ e; omega), h2.keep hU (fun k hk e => ?_)⟩
  have h3 := (h2.ge k hk).1
  have h4 := hS _ e
  omega
theorem RefIs.no {w w' : World} {g : Nat} {room : Int} {M : List Ent} (h : RefIs w g room M) (hU : Upd No w w') : RefIs w' g room M := h.upd hU (fun _ e => e.elim)
theorem RefIs.lt {w : World} {g : Nat} {room : Int} {M : List Ent} (h : RefIs w g room M) : g < w.heap.size := by
  obtain ⟨v, h1, _⟩ := h
  exact heap_lt h1
theorem refNew_calls (room : Int) (w : World) : Calls Try.prog 16 #[.int .i64 room] w fun e w' => e = .returned (.pointer (some ⟨w.heap.size, 0, none⟩)) ∧ Upd No w w' ∧ RefIs w' w.heap.size (max 0 (min room 64)) [] := by
  go_enter Try.func16, Try.ntmps16
  go_wp2
  all_goals
    go_ret
    refine ⟨rfl, (Upd.refl _ w).alloc _, _, ?_, OwnK.nil _ _⟩
    first
      | exact block_new w _
      | (rw [show max 0 (min room 64) = _ from by omega]; exact block_new w _)
theorem refRight_calls (k : Key) (w : World) : Calls Try.prog 24 #[.agg #[.int .i64 k.1, .int .i64 k.2.1, .int .i64 k.2.2]] w fun e w' => e = .returned (.bool (rightB k)) ∧ Upd No w w' := by
  go_enter Try.func24, Try.ntmps24
  go_wp2
  all_goals (go_ret; exact ⟨ret_bool (by rw [Bool.eq_iff_iff, rightB_iff]; first | (simp; omega) | simp | omega), (Upd.refl _ w).alloc _⟩)
theorem refBefore_calls (a b : Key) (w : World) : Calls Try.prog 31 #[.agg #[.int .i64 a.1, .int .i64 a.2.1, .int .i64 a.2.2], .agg #[.int .i64 b.1, .int .i64 b.2.1, .int .i64 b.2.2]] w fun e w' => e = .returned (.bool (before a b)) ∧ Upd No w w' := by
  by_cases h1 : a.1 = b.1
  · have t1 : (a.1 != b.1) = false := by simp [h1]
    by_cases h2 : a.2.1 = b.2.1
    · have t2 : (a.2.1 != b.2.1) = false := by simp [h2]
      have hb : before a b = decide (a.2.2 < b.2.2) := by simp [before, h1, h2]
      rw [hb]
      clear h1 h2 hb
      go_enter Try.func31, Try.ntmps31
      go_wp2
      go_ret
      exact ⟨rfl, ((Upd.refl _ w).alloc _).alloc _⟩
    · have t2 : (a.2.1 != b.2.1) = true := by simp [h2]
      have hb : before a b = decide (a.2.1 < b.2.1) := by simp [before, h1, h2]
      rw [hb]
      clear h1 h2 hb
      go_enter Try.func31, Try.ntmps31
      go_wp2
      go_ret
      exact ⟨rfl, ((Upd.refl _ w).alloc _).alloc _⟩
  · have t1 : (a.1 != b.1) = true := by simp [h1]
    have hb : before a b = decide (a.1 < b.1) := by simp [before, h1]
    rw [hb]
    clear h1 hb
    go_enter Try.func31, Try.ntmps31
    go_wp2
    go_ret
    exact ⟨rfl, ((Upd.refl _ w).alloc _).alloc _⟩
/-- A key's place: -1, or where it lies. -/
def AtIs (M : List Ent) (k : Key) (r : Int) : Prop :=
  (r = -1 ∧ lookK Prod.fst M k = none) ∨ ∃ (i : Nat) (x : Ent), r = (i : Int) ∧ M[i]? = some x ∧ x.1 = k ∧ lookK Prod.fst M k = some x ∧ ∀ y, y ∈ M.take i → y.1 ≠ k
theorem look_at {M : List Ent} {k : Key} {i : Nat} {x : Ent} (hx : M[i]? = some x) (hk : x.1 = k) (hno : ∀ y, y ∈ M.take i → y.1 ≠ k) : lookK Prod.fst M k = some x := by
  have hM : M = M.take i ++ x :: M.drop (i + 1) := by
    obtain ⟨h1, h2⟩ := List.getElem?_eq_some_iff.1 hx
    rw [← h2, ← List.drop_eq_getElem_cons h1, List.take_append_drop]
  unfold lookK
  rw [hM, List.find?_append, List.find?_eq_none.2 (fun y hy => by simpa using hno y hy)]
  simp [hk]
set_option maxRecDepth 100000 in
set_option maxHeartbeats 1000000 in
theorem at_calls (g : Nat) (room : Int) (M : List Ent) (k : Key) (w : World) (h : RefIs w g room M) (hl : M.length ≤ 1000000) : Calls Try.prog 30 #[.pointer (some ⟨g, 0, none⟩), .agg #[.int .i64 k.1, .int .i64 k.2.1, .int .i64 k.2.2]] w fun e w' => (∃ r, e = .returned (.int .i64 r) ∧ AtIs M k r) ∧ Upd No w w' := by
  obtain ⟨v, hb, ho⟩ := h
  have hs := ho.sl entEnc
  obtain ⟨a0, c0, rfl, _, _, _, _⟩ := hs.shape
  have HS := Lib.hid hs
  have hg := (cells_at hb).1 0
  have HB := Lib.hid hb
  clear ho hs hb
  go_enter Try.func30, Try.ntmps30
  have hbx := (cells_at (block_new w (.cells #[.int .i64 k.1, .int .i64 k.2.1, .int .i64 k.2.2] 29))).1
  have g0 := ((Upd.refl No w).alloc (.cells #[.int .i64 k.1, .int .i64 k.2.1, .int .i64 k.2.2] 29)).cell hg (fun h => h)
  have q0 := hbx 0
  have q1 := hbx 1
  have q2 := hbx 2
  have hU0 := ((Upd.refl No w).alloc (.cells #[.int .i64 k.1, .int .i64 k.2.1, .int .i64 k.2.2] 29))
  obtain ⟨bx, hbxx⟩ : ∃ b, b = w.heap.size := ⟨_, rfl⟩
  rw [← hbxx] at q0 q1 q2
  have HX := Lib.hid hbxx
  clear hbx hg hbxx
  go_wp2
  rw [← HX.out]
  generalize w.alloc (.cells #[.int .i64 k.1, .int .i64 k.2.1, .int .i64 k.2.2] 29) = w1 at *
  go_loopw [11] (fun i wr => ∃ n : Nat, n ≤ M.length ∧ i = .int .i64 (n : Int) ∧ (∀ y, y ∈ M.take n → y.1 ≠ k) ∧ Upd No w1 wr) (fun i _ => M.length - (intOf i).toNat)
  case atStart => exact ⟨0, Nat.zero_le _, rfl, by simp, Upd.refl _ _⟩
  case round =>
    obtain ⟨n, hn, rfl, hno, hU⟩ := hrel
    have HNO := Lib.hid hno
    clear hno
    have z0 := hU.cell g0 (fun h => h)
    have p0 := hU.cell q0 (fun h => h)
    have p1 := hU.cell q1 (fun h => h)
    have p2 := hU.cell q2 (fun h => h)
    by_cases hlt : n < M.length
    · obtain ⟨x, hx⟩ : ∃ x, M[n]? = some x := ⟨_, List.getElem?_eq_getElem hlt⟩
      obtain ⟨b, off, cap, hv, hc1, hm1, hb1, r1⟩ := HS.out.known entEnc hx
      simp only [Value.slice.injEq, true_and] at hv
      obtain ⟨rfl, rfl⟩ := hv
      have hcm : (M.length : Int) ≤ 1000000 := by omega
      have d0 := fun j hj v (hv : (entE x)[j]? = some v) => hU.cell (hU0.cell ((r1 j hj).trans hv) (fun h => h)) (fun h => h)
      have x0 := d0 0 (by omega) _ rfl
      have x1 := d0 1 (by omega) _ rfl
      have x2 := d0 2 (by omega) _ rfl
      simp only [Nat.add_zero] at x0
      have hk0 : (0 : Int) ≤ (n : Int) := by omega
      have hk1 : (n : Int) < (M.length : Int) := by omega
      have ht1 : M.take (n + 1) = M.take n ++ [x] := by
        rw [List.take_add_one, hx]; rfl
      have HT1 := Lib.hid ht1
      have hmi : c0 ≤ 9223372036854775807 := by unfold maxLen at hm1; omega
      have HXX := Lib.hid hx
      clear d0 r1 ht1 hx hm1
      have heq := run_eql_key x.1 k
      by_cases hxk : x.1 = k
      · rw [show decide (x.1 = k) = true from by simp [hxk]] at heq
        have HXK := Lib.hid hxk
        clear hxk
        go_wp2
        go_quiet (fail)
        go_wp2
        go_ret
        exact ⟨⟨_, rfl, .inr ⟨n, x, rfl, HXX.out, HXK.out, look_at HXX.out HXK.out HNO.out, HNO.out⟩⟩, (hU0.trans hU).drewN _⟩
      · rw [show decide (x.1 = k) = false from by simp [hxk]] at heq
        have HXK := Lib.hid hxk
        clear hxk
        go_wp2
        go_quiet (fail)
        go_wp2
        go_roundw
        case rel =>
          refine ⟨n + 1, by omega, by go_num, ?_, hU.drewN _⟩
          rw [HT1.out]
          intro y hy
          rcases List.mem_append.1 hy with h | h
          · exact HNO.out y h
          · rw [List.mem_singleton.1 h]; exact HXK.out
        case measure => simp [intOf]; omega
    · obtain rfl : n = M.length := by omega
      have hln : lookK Prod.fst M k = none := lookK_none.2 (fun y hy => HNO.out y (by rw [List.take_length]; exact hy))
      have HLN := Lib.hid hln
      clear hln hlt
      go_wp2
      go_ret
      exact ⟨⟨_, rfl, .inl ⟨rfl, HLN.out⟩⟩, hU0.trans hU⟩
set_option maxRecDepth 100000 in
set_option maxHeartbeats 1000000 in
theorem refGet_calls (g : Nat) (room : Int) (M : List Ent) (k : Key) (w : World) (h : RefIs w g room M) (hl : M.length ≤ 1000000) : Calls Try.prog 20 #[.pointer (some ⟨g, 0, none⟩), .agg #[.int .i64 k.1, .int .i64 k.2.1, .int .i64 k.2.2]] w fun e w' => e = .returned (gotV (lookK Prod.fst M k)) ∧ Upd No w w' := by
  have H := Lib.hid h
  have hlM := hl
  clear h
  obtain ⟨o, ho⟩ : ∃ o, o = lookK Prod.fst M k := ⟨_, rfl⟩
  rw [← ho]
  have HO := Lib.hid ho
  clear ho
  go_enter Try.func20, Try.ntmps20
  go_wp2_with fail
  have hU0 := ((Upd.refl No w).alloc (.cells #[.int .i64 k.1, .int .i64 k.2.1, .int .i64 k.2.2] 29))
  refine (at_calls g room M k _ (H.out.no hU0) hl).mono ?_
  rintro e w1 ⟨⟨r, rfl, hr⟩, hU1⟩
  have hU := hU0.trans hU1
  have H1 := Lib.hid (H.out.no hU)
  clear hU0 hU1
  rcases hr with ⟨rfl, hn⟩ | ⟨i, x, rfl, hx, hk, hs, _⟩
  · rw [hn] at HO
    obtain rfl := HO.out
    clear HO hn
    go_wp2_with fail
    go_ret2
    exact ⟨rfl, hU⟩
  · rw [hs] at HO
    obtain rfl := HO.out
    have HK := Lib.hid hk
    obtain ⟨v, hb, ho⟩ := H1.out
    obtain ⟨b, off, cap, rfl, hc1, hm1, hb1, r1⟩ := (ho.sl entEnc).known entEnc hx
    have z0 := (cells_at hb).1 0
    have x3 := (r1 3 (by omega)).trans (show (entE x)[3]? = some (.int .i64 x.2) from rfl)
    have hk0 : (0 : Int) ≤ (i : Int) := by omega
    have hk1 : (i : Int) < (M.length : Int) := by have := (List.getElem?_eq_some_iff.1 hx).1; omega
    have hmi : cap ≤ 9223372036854775807 := by unfold maxLen at hm1; omega
    clear HO hs hx hk r1 hb ho hm1
    go_wp2_with fail
    go_ret2
    exact ⟨rfl, hU⟩
def orLess (o : Option Int) : Int := match o with | some v => v | none => -1
theorem freeFrom_wrong {M : List Ent} {p q : Int} (h : rightB (p, q, 0) = false) (f : Nat) {v : Int} (_hv : 0 ≤ v) : freeFrom M p q f v = none := by
  refine freeFrom_none ?_
  rw [Bool.eq_false_iff, Ne, rightB_iff] at h ⊢
  simp only at h ⊢
  omega
theorem at_look {M : List Ent} {k : Key} {r : Int} (h : AtIs M k r) : (lookK Prod.fst M k).isSome = decide (0 ≤ r) := by
  rcases h with ⟨rfl, h⟩ | ⟨i, x, rfl, _, _, h, _⟩
  · rw [h]; rfl
  · rw [h]; simp
set_option maxRecDepth 100000 in
set_option maxHeartbeats 1000000 in
theorem refFree_calls (g : Nat) (room : Int) (M : List Ent) (p q from_ : Int) (w : World) (h : RefIs w g room M) (hl : M.length ≤ 1000000) : Calls Try.prog 22 #[.pointer (some ⟨g, 0, none⟩), .int .i64 p, .int .i64 q, .int .i64 from_] w fun e w' => e = .returned (.int .i64 (orLess (freeOf M p q from_))) ∧ Upd No w w' := by
  have hx : ∀ v0 : Int, max 0 from_ = v0 → freeOf M p q from_ = freeFrom M p q (65537 - v0).toNat v0 := fun v0 h => by unfold freeOf; rw [Int.max_comm, h]
  obtain ⟨r, hr⟩ : ∃ r, r = freeOf M p q from_ := ⟨_, rfl⟩
  rw [← hr] at hx ⊢
  have HX := Lib.hid hx
  have HT := Lib.hid h
  clear hx h hr
  go_enter Try.func22, Try.ntmps22
  go_wp2_with fail
  refine (refRight_calls (p, q, 0) _).mono ?_
  rintro e w1 ⟨rfl, hU1⟩
  cases hright : rightB (p, q, 0) with
  | false =>
    have hr0 := (HX.out _ rfl).trans (freeFrom_wrong hright _ (by omega))
    have HR0 := Lib.hid hr0
    clear hr0 hright
    go_wp2_with fail
    go_ret
    exact ⟨by rw [HR0.out]; rfl, hU1⟩
  | true =>
    have HRT := Lib.hid hright
    clear hright
    go_wp2_with fail
    all_goals
      go_loopw [9] (fun v wr => ∃ k : Int, 0 ≤ k ∧ v = .int .i64 k ∧ r = freeFrom M p q (65537 - k).toNat k ∧ Upd No w wr) (fun v _ => (65537 - intOf v).toNat)
      case atStart => exact ⟨_, by omega, rfl, HX.out _ (by omega), hU1⟩
      case round =>
        obtain ⟨k, hk, rfl, hrk, hU⟩ := hrel
        have HRK := Lib.hid hrk
        clear hrk
        by_cases hlt : k < 65536
        · have hright : rightB (p, q, k) = true := by
            have := (rightB_iff _).1 HRT.out
            rw [rightB_iff]
            simp only at this ⊢
            omega
          have hstep := freeFrom_step (M := M) hk hright
          have HS := Lib.hid hstep
          clear hstep hright
          go_wp2_with fail
          refine (at_calls g room M (p, q, k) _ (HT.out.no hU) hl).mono ?_
          rintro e w2 ⟨⟨s, rfl, hs⟩, hU2⟩
          have hal := at_look hs
          by_cases h0 : s < 0
          · have HAL := Lib.hid (show (lookK Prod.fst M (p, q, k)).isSome = false by rw [hal]; simp; omega)
            clear hal hs
            go_wp2_with fail
            go_ret
            exact ⟨by rw [HRK.out, HS.out, if_neg (by rw [HAL.out]; simp)]; rfl, hU.trans hU2⟩
          · have HAL := Lib.hid (show (lookK Prod.fst M (p, q, k)).isSome = true by rw [hal]; simp; omega)
            have hs0 : 0 ≤ s := by omega
            clear hal hs h0
            go_wp2_with fail
            go_roundw
            case rel => exact ⟨k + 1, by omega, rfl, by rw [HRK.out, HS.out, if_pos HAL.out], hU.trans hU2⟩
            case measure => simp [intOf]; omega
        · have hr0 := HRK.out.trans (freeFrom_none (M := M) (by rw [Bool.eq_false_iff, Ne, rightB_iff]; simp only; omega))
          have HR0 := Lib.hid hr0
          clear hr0
          go_wp2_with fail
          go_ret
          exact ⟨by rw [HR0.out]; rfl, hU⟩
end Go.Proofs.Ytoondlbagbgbmaa
