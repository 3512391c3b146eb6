/- The statement ConnsPlay: the walk of the law. -/
import Derived.Test.YtoondlbagbgbmaaRows
import Derived.Test.YtoondlbagbgbmaaBase
import Derived.Test.YtoondlbagbgbmaaProbe
import Derived.Test.YtoondlbagbgbmaaSorted
import Derived.Test.YtoondlbagbgbmaaTab
import Derived.Test.YtoondlbagbgbmaaEq
import Derived.Test.YtoondlbagbgbmaaConns1
import Derived.Test.YtoondlbagbgbmaaGet
import Derived.Test.YtoondlbagbgbmaaPut
import Derived.Test.YtoondlbagbgbmaaDrop
import Derived.Test.YtoondlbagbgbmaaFree
import Derived.Test.YtoondlbagbgbmaaOps
import Derived.Test.YtoondlbagbgbmaaSliceK
import Derived.Test.YtoondlbagbgbmaaGrew
import Derived.Test.YtoondlbagbgbmaaAll
import Derived.Test.YtoondlbagbgbmaaLaw9
import Derived.Test.YtoondlbagbgbmaaSame9
import Derived.Test.YtoondlbagbgbmaaAwake9
import Derived.Test.YtoondlbagbgbmaaGiveK
import Derived.Test.YtoondlbagbgbmaaRef9
import Derived.Test.YtoondlbagbgbmaaRefPut9
import Derived.Test.YtoondlbagbgbmaaRefDrop9
import Derived.StillTailTactics
import Derived.Deep.RegionHeld3
namespace Go.Proofs.Ytoondlbagbgbmaa
open Go.RowKit Go.Shelf Go.Proofs.Tab
attribute [local go_sem] Oper.semAt_some

/-- Both tables, and the key's box. -/
structure PI (w : World) (r b1 g : Nat) (k : Key) (R : Int) (M M2 : List Ent) (W : World) : Prop where
  up : Upd No w W
  bx : W.heap[r]? = some (.cells #[.int .i64 k.1, .int .i64 k.2.1, .int .i64 k.2.2] 29 (0, 0))
  t1 : TabIs W b1 R M
  rf : RefIs W g R M2
theorem PI.no {w : World} {r b1 g : Nat} {k : Key} {R : Int} {M M2 : List Ent} {W W' : World} (h : PI w r b1 g k R M M2 W) (hU : Upd No W W') : PI w r b1 g k R M M2 W' :=
  ⟨h.up.trans hU, hU.at h.bx (fun h => h), h.t1.upd hU (fun h => h), h.rf.no hU⟩
theorem PI.one {w : World} {r b1 g : Nat} {k : Key} {R : Int} {M M2 M' : List Ent} {W W' : World} (h : PI w r b1 g k R M M2 W) (hU : Upd (One b1) W W') (ht : TabIs W' b1 R M') (h1 : w.heap.size ≤ b1) (h2 : r < b1) (h3 : b1 < g) : PI w r b1 g k R M' M2 W' :=
  ⟨h.up.then hU (fun i hi e => by rw [show i = b1 from e] at hi; omega), hU.at h.bx (fun e => by rw [show r = b1 from e] at h2; omega), ht, h.rf.upd hU (fun j e => by rw [show j = b1 from e]; exact h3)⟩
theorem PI.two {w : World} {r b1 g : Nat} {k : Key} {R : Int} {M M2 M' : List Ent} {W W' : World} (h : PI w r b1 g k R M M2 W) (hU : Upd (One g) W W') (hr : RefIs W' g R M') (h1 : w.heap.size ≤ b1) (h2 : r < b1) (h3 : b1 < g) : PI w r b1 g k R M M' W' :=
  ⟨h.up.then hU (fun i hi e => by rw [show i = g from e] at hi; omega), hU.at h.bx (fun e => by rw [show r = g from e] at h2; omega), h.t1.upd hU (fun e => by rw [show b1 = g from e] at h3; omega), hr⟩
theorem refPut_is {g : Nat} {R : Int} {M : List Ent} {k : Key} {n c : Int} {M' : List Ent} (h : putOf R M k n = (c, M')) (w : World) (hT : RefIs w g R M) (hl : M.length ≤ 1000) : Calls Try.prog 17 #[.pointer (some ⟨g, 0, none⟩), .agg #[.int .i64 k.1, .int .i64 k.2.1, .int .i64 k.2.2], .int .i64 n] w fun e w' => e = .returned (.int .i64 c) ∧ Upd (One g) w w' ∧ RefIs w' g R M' := by
  have := refPut_calls g R M k n w hT hl
  rw [h] at this
  exact this
theorem drop_is {b : Nat} {R : Int} {M : List Ent} {k : Key} {nv : Int} {bv : Bool} (h : gotV (lookK Prod.fst M k) = .tuple #[.int .i64 nv, .bool bv]) (w : World) (hT : TabIs w b R M) : Calls Try.prog 12 #[.pointer (some ⟨b, 0, none⟩), .agg #[.int .i64 k.1, .int .i64 k.2.1, .int .i64 k.2.2]] w fun e w' => e = .returned (.tuple #[.int .i64 nv, .bool bv]) ∧ Upd (One b) w w' ∧ TabIs w' b R (delK Prod.fst M k) := by
  have := drop_calls b R M k w hT
  unfold DropPost at this
  rw [h] at this
  exact this
theorem refDrop_is {g : Nat} {R : Int} {M : List Ent} {k : Key} {nv : Int} {bv : Bool} (h : gotV (lookK Prod.fst M k) = .tuple #[.int .i64 nv, .bool bv]) (w : World) (hT : RefIs w g R M) (hl : M.length ≤ 1000) (hs : Sorted Prod.fst M) : Calls Try.prog 18 #[.pointer (some ⟨g, 0, none⟩), .agg #[.int .i64 k.1, .int .i64 k.2.1, .int .i64 k.2.2]] w fun e w' => e = .returned (.tuple #[.int .i64 nv, .bool bv]) ∧ Upd (One g) w w' ∧ RefIs w' g R (delK Prod.fst M k) := by
  have := refDrop_calls g R M k w hT hl hs
  unfold RDrop at this
  rw [h] at this
  exact this
theorem got_is {b : Nat} {R : Int} {M : List Ent} {k : Key} {nv : Int} {bv : Bool} (h : gotV (lookK Prod.fst M k) = .tuple #[.int .i64 nv, .bool bv]) (w : World) (hT : TabIs w b R M) : Calls Try.prog 19 #[.pointer (some ⟨b, 0, none⟩), .agg #[.int .i64 k.1, .int .i64 k.2.1, .int .i64 k.2.2]] w fun e w' => e = .returned (.tuple #[.int .i64 nv, .bool bv]) ∧ Upd No w w' := by
  have := get_calls b R M k w hT
  rw [h] at this
  exact this
theorem refGot_is {g : Nat} {R : Int} {M : List Ent} {k : Key} {nv : Int} {bv : Bool} (h : gotV (lookK Prod.fst M k) = .tuple #[.int .i64 nv, .bool bv]) (w : World) (hT : RefIs w g R M) (hl : M.length ≤ 1000) : Calls Try.prog 20 #[.pointer (some ⟨g, 0, none⟩), .agg #[.int .i64 k.1, .int .i64 k.2.1, .int .i64 k.2.2]] w fun e w' => e = .returned (.tuple #[.int .i64 nv, .bool bv]) ∧ Upd No w w' := by
  have := refGet_calls g R M k w hT (by omega)
  rw [h] at this
  exact this
theorem same_self {v1 v2 : Value} {l : List Ent} {w : World} (h1 : SlK entE w v1 l) (h2 : SlK entE w v2 l) (hl : l.length ≤ 1000000) : Calls Try.prog 13 #[v1, v2] w fun e w' => e = .returned (.bool true) ∧ Upd No w w' := by
  have := same9_calls v1 v2 l l w h1 h2 hl hl
  rw [show decide (l = l) = true from by simp] at this
  exact this
theorem freeFrom_ge {M : List Ent} {p q : Int} : ∀ (f : Nat) (v : Int), 0 ≤ v → ∀ u, freeFrom M p q f v = some u → 0 ≤ u := by
  intro f
  induction f with
  | zero => intro v _ u h; simp [freeFrom] at h
  | succ f ih =>
    intro v hv u h
    unfold freeFrom at h
    split at h
    · split at h
      · exact ih (v + 1) (by omega) u h
      · cases h; exact hv
    · cases h
theorem free_is {b : Nat} {R : Int} {M : List Ent} {p q f : Int} {o : Option Int} {x : Int} {y : Bool} (h : freeOf M p q f = o) (hx : freeV o = .tuple #[.int .i64 x, .bool y]) (w : World) (hT : TabIs w b R M) : Calls Try.prog 21 #[.pointer (some ⟨b, 0, none⟩), .int .i64 p, .int .i64 q, .int .i64 f] w fun e w' => e = .returned (.tuple #[.int .i64 x, .bool y]) ∧ Upd No w w' := by
  have := free_calls b R M p q f w hT
  rw [h, hx] at this
  exact this
theorem refFree_is {g : Nat} {R : Int} {M : List Ent} {p q f : Int} {o : Option Int} {x : Int} (h : freeOf M p q f = o) (hx : orLess o = x) (w : World) (hT : RefIs w g R M) (hl : M.length ≤ 1000000) : Calls Try.prog 22 #[.pointer (some ⟨g, 0, none⟩), .int .i64 p, .int .i64 q, .int .i64 f] w fun e w' => e = .returned (.int .i64 x) ∧ Upd No w w' := by
  have := refFree_calls g R M p q f w hT hl
  rw [h, hx] at this
  exact this
set_option maxRecDepth 100000 in
set_option maxHeartbeats 1000000 in
theorem play_early (room : Int) (a1 : Option Addr) (n1 c1 : Nat) (k : Key) (w : World) (h : (200 : Int) < (n1 : Int)) : Calls Try.prog 5 #[.int .i64 room, .slice a1 n1 c1, .agg #[.int .i64 k.1, .int .i64 k.2.1, .int .i64 k.2.2]] w fun e w' => e = .returned (.bool true) ∧ Upd No w w' := by
  go_enter Try.func5, Try.ntmps5
  go_wp2_with fail
  refine (awake9 _).mono ?_
  rintro e w1 ⟨rfl, hU1⟩
  go_wp2_with fail
  refine (awake9 _).mono ?_
  rintro e w2 ⟨rfl, hU2⟩
  have hU' : Upd No w w2 := ((Upd.refl No w).alloc _).trans (hU1.trans hU2)
  clear hU1 hU2
  go_wp2_with fail
  go_ret
  exact ⟨rfl, hU'⟩
set_option maxRecDepth 100000 in
set_option maxHeartbeats 1000000 in
set_option maxHeartbeats 8000000 in
theorem play_walk (room : Int) (u1 : Value) (l1 : List Ent) (k : Key) (w : World) (ha1 : ArgK entE w u1 l1) (hn1 : l1.length ≤ 200) : Calls Try.prog 5 #[.int .i64 room, u1, .agg #[.int .i64 k.1, .int .i64 k.2.1, .int .i64 k.2.2]] w fun e w' => e = .returned (.bool true) ∧ Upd No w w' := by
  obtain ⟨a1, q1, rfl⟩ := ha1.shape
  have HA1 := Lib.hid ha1
  have hi1 : (l1.length : Int) ≤ 200 := by omega
  clear ha1
  go_enter Try.func5, Try.ntmps5
  go_wp2_with fail
  refine (awake9 _).mono ?_
  rintro e w1 ⟨rfl, hU1⟩
  go_wp2_with fail
  refine (new_calls room _).mono ?_
  rintro e w2 ⟨rfl, hU2, hT2⟩
  obtain ⟨R, hR⟩ : ∃ R, R = max 0 (min room 64) := ⟨_, rfl⟩
  have HRR := Lib.hid hR
  rw [← hR] at hT2
  obtain ⟨r, hr⟩ : ∃ r, r = w.heap.size := ⟨_, rfl⟩
  obtain ⟨b1, hb1⟩ : ∃ b1, b1 = w1.heap.size := ⟨_, rfl⟩
  rw [← hb1] at hT2 ⊢
  have e2 := hT2.lt
  have hs1 : r < b1 := by
    have := hU1.size
    simp only [World.size_alloc] at this
    omega
  have hw0 : w.heap.size ≤ b1 := by omega
  have hbx0 : (w.alloc (.cells #[.int .i64 k.1, .int .i64 k.2.1, .int .i64 k.2.2] 29)).heap[r]? = some (.cells #[.int .i64 k.1, .int .i64 k.2.1, .int .i64 k.2.2] 29 (0, 0)) := by rw [hr]; exact block_new w _
  have hbx2 := (hU1.trans hU2).at hbx0 (fun h => h)
  have hU02 : Upd No w w2 := ((Upd.refl No w).alloc _).trans (hU1.trans hU2)
  have HR1 := Lib.hid hr
  clear hU1 hU2 hbx0 hR hb1
  rw [← hr]
  clear hr
  go_wp2_with fail
  refine (refNew_calls room _).mono ?_
  rintro e w3 ⟨rfl, hU3, hR3⟩
  rw [← HRR.out] at hR3
  obtain ⟨g, hg⟩ : ∃ g, g = w2.heap.size := ⟨_, rfl⟩
  rw [← hg] at hR3 ⊢
  have hbg : b1 < g := by omega
  have hI0 : PI w r b1 g k R [] [] w3 := ⟨hU02.trans hU3, hU3.at hbx2 (fun h => h), hT2.upd hU3 (fun h => h), hR3⟩
  have HI0 := Lib.hid hI0
  clear hI0 hU02 hU3 hR3 hT2 hbx2 hg e2
  go_wp2_with fail
  go_loopw [37] (fun i wr => ∃ (n : Nat) (M : List Ent), n ≤ l1.length ∧ i = .int .i64 (n : Int) ∧ PI w r b1 g k R M M wr) (fun i _ => l1.length - (intOf i).toNat)
  case atStart => exact ⟨0, [], Nat.zero_le _, rfl, HI0.out⟩
  case round =>
    obtain ⟨n, M, hn, rfl, hi⟩ := hrel
    have hM64 : (M.length : Int) ≤ 64 := by have := hi.t1.le; omega
    have hMl : M.length ≤ 1000 := by omega
    have hMm : M.length ≤ 1000000 := by omega
    have HSRT := Lib.hid hi.t1.sorted
    have HI := Lib.hid hi
    by_cases hlt : n < l1.length
    · obtain ⟨x, hx⟩ : ∃ x, l1[n]? = some x := ⟨_, List.getElem?_eq_getElem hlt⟩
      obtain ⟨ba, oa, ca, hv, hca, hcm, hba, hcl⟩ := HA1.out.known entEnc (by rintro rfl; simp at hlt)
      simp only [Value.slice.injEq, true_and] at hv
      obtain ⟨rfl, rfl⟩ := hv
      have CE : Hid (∀ W', Upd No w W' → W'.cell? ⟨ba, oa + n * 4, none⟩ = some (.int .i64 x.1.1) ∧ W'.cell? ⟨ba, oa + n * 4 + 1, none⟩ = some (.int .i64 x.1.2.1) ∧ W'.cell? ⟨ba, oa + n * 4 + 2, none⟩ = some (.int .i64 x.1.2.2) ∧ W'.cell? ⟨ba, oa + n * 4 + 3, none⟩ = some (.int .i64 x.2)) := Lib.hid fun W' h =>
        ⟨h.cell ((hcl n x hx 0 (by omega)).trans rfl) (fun h => h), h.cell ((hcl n x hx 1 (by omega)).trans rfl) (fun h => h), h.cell ((hcl n x hx 2 (by omega)).trans rfl) (fun h => h), h.cell ((hcl n x hx 3 (by omega)).trans rfl) (fun h => h)⟩
      have hk0 : (0 : Int) ≤ (n : Int) := by omega
      have hk1 : (n : Int) < (l1.length : Int) := by omega
      have hcmi : q1 ≤ 9223372036854775807 := by unfold maxLen at hcm; omega
      clear hi hcl hcm hx
      obtain ⟨x0, x1, x2, x3⟩ := CE.out _ HI.out.up
      by_cases hp : 0 ≤ x.2
      · obtain ⟨c, M', hput⟩ : ∃ c M', putOf R M x.1 x.2 = (c, M') := ⟨_, _, rfl⟩
        have HP := Lib.hid hput
        have HID := Lib.hid (HI.out.no ((Upd.refl No wr).drew))
        clear hput
        go_wp2_with (with_reducible refine stop_dst 71 ?_)
        clear x0 x1 x2 x3
        go_region_held3 (fun w' => w'.cell? ⟨ba, oa + n * 4, none⟩ = some (.int .i64 x.1.1) ∧ w'.cell? ⟨ba, oa + n * 4 + 1, none⟩ = some (.int .i64 x.1.2.1) ∧ w'.cell? ⟨ba, oa + n * 4 + 2, none⟩ = some (.int .i64 x.1.2.2) ∧ w'.cell? ⟨ba, oa + n * 4 + 3, none⟩ = some (.int .i64 x.2))
          (first | exact CE.out _ HID.out.up | exact CE.out _ hi5.up | exact CE.out _ hi6.up)
          (first
            | (go_at_call 9; refine (put_is HP.out _ HID.out.t1).mono ?_; rintro e w5 ⟨rfl, hU5, hT5⟩; have hi5 := HID.out.one hU5 hT5 hw0 hs1 hbg)
            | (go_at_call 17; refine (refPut_is HP.out _ hi5.rf hMl).mono ?_; rintro e w6 ⟨rfl, hU6, hR6⟩; have hi6 := hi5.two hU6 hR6 hw0 hs1 hbg))
        obtain ⟨NN, hNN⟩ : ∃ NN, NN = M' := ⟨_, rfl⟩
        rw [← hNN] at hi6
        have HI6 := Lib.hid hi6
        clear hi5 hi6 hU5 hU6 hT5 hR6 hNN HP
        obtain ⟨nv2, bv2, hgot2⟩ : ∃ nv bv, gotV (lookK Prod.fst NN k) = .tuple #[.int .i64 nv, .bool bv] := ⟨_, _, rfl⟩
        have HG2 := Lib.hid hgot2
        have q0 := (cells_at HI6.out.bx).1 0
        have q1' := (cells_at HI6.out.bx).1 1
        have q2 := (cells_at HI6.out.bx).1 2
        have hNl : NN.length ≤ 1000 := by have := HI6.out.t1.le; omega
        have hNm : NN.length ≤ 1000000 := by omega
        have hN64 : (NN.length : Int) ≤ 64 := by have := HI6.out.t1.le; omega
        clear hgot2
        go_wp2_with fail
        refine (got_is HG2.out _ HI6.out.t1).mono ?_
        rintro e w7 ⟨rfl, hU7⟩
        have HI7 := Lib.hid (HI6.out.no hU7)
        clear q0 q1' q2 hU7
        have q0 := (cells_at HI7.out.bx).1 0
        have q1' := (cells_at HI7.out.bx).1 1
        have q2 := (cells_at HI7.out.bx).1 2
        go_wp2_with fail
        refine (refGot_is HG2.out _ HI7.out.rf hNl).mono ?_
        rintro e w8 ⟨rfl, hU8⟩
        have HI8 := Lib.hid (HI7.out.no hU8)
        clear q0 q1' q2 hU8
        obtain ⟨vr, hbr, hor⟩ := HI8.out.rf
        obtain ⟨ar, cr, rfl, hc1, hc2, _, _⟩ := (hor.sl entEnc).shape
        have HOR := Lib.hid hor
        have HBR := Lib.hid hbr
        have hUd : Upd No w8 w8.drew := (Upd.refl No w8).drew
        have CE8 : Hid (∀ W', Upd No w8 W' → W'.cell? ⟨g, 0, none⟩ = some (.slice ar NN.length cr)) := Lib.hid fun W' h => (cells_at (h.at HBR.out (fun h => h))).1 0
        clear hor hbr hc1 hc2
        go_wp2_with fail
        go_region_held3 (fun w' => w'.cell? ⟨g, 0, none⟩ = some (.slice ar NN.length cr))
          (first | exact CE8.out _ hUd | exact CE8.out _ hUA | exact CE8.out _ hUS)
          (first
            | (go_at_call 14; refine (len_calls b1 R NN _ (HI8.out.t1.upd hUd (fun h => h))).mono ?_; rintro e w' ⟨rfl, rfl⟩)
            | (go_at_call 11; refine (allL_calls b1 R NN _ (HI8.out.t1.upd hUd (fun h => h))).mono ?_; rintro e w9 ⟨vt, rfl, hown, hU9⟩; have hUA := hUd.trans hU9)
            | (go_at_call 13; refine (same_self (hown.sl entEnc) ((HOR.out.sl entEnc).no hUA) hNm).mono ?_; rintro e w10 ⟨rfl, hU10⟩; have hUS := hUA.trans hU10))
        have HI10 := Lib.hid (HI8.out.no hUS)
        clear hown hU9 hU10 hUA hUS hUd CE8 HOR HBR
        go_wp2_with fail
        go_roundw
        case rel => exact ⟨n + 1, NN, by omega, by go_num, HI10.out⟩
        case measure => simp [intOf]; omega
      · obtain ⟨nv, bv, hgot⟩ : ∃ nv bv, gotV (lookK Prod.fst M x.1) = .tuple #[.int .i64 nv, .bool bv] := ⟨_, _, rfl⟩
        have HG := Lib.hid hgot
        have hp2 : x.2 < 0 := by omega
        clear hgot
        go_wp2_with fail
        refine (drop_is HG.out _ HI.out.t1).mono ?_
        rintro e w5 ⟨rfl, hU5, hT5⟩
        have HI5 := Lib.hid (HI.out.one hU5 hT5 hw0 hs1 hbg)
        clear hU5 hT5 x0 x1 x2 x3
        obtain ⟨x0, x1, x2, x3⟩ := CE.out _ HI5.out.up
        go_wp2_with fail
        refine (refDrop_is HG.out _ HI5.out.rf hMl HSRT.out).mono ?_
        rintro e w6 ⟨rfl, hU6, hR6⟩
        have hi6 := HI5.out.two hU6 hR6 hw0 hs1 hbg
        clear x0 x1 x2 x3
        obtain ⟨NN, hNN⟩ : ∃ NN, NN = delK Prod.fst M x.1 := ⟨_, rfl⟩
        rw [← hNN] at hi6
        have HI6 := Lib.hid hi6
        clear hi6 hU6 hR6 hNN HG
        obtain ⟨nv2, bv2, hgot2⟩ : ∃ nv bv, gotV (lookK Prod.fst NN k) = .tuple #[.int .i64 nv, .bool bv] := ⟨_, _, rfl⟩
        have HG2 := Lib.hid hgot2
        have q0 := (cells_at HI6.out.bx).1 0
        have q1' := (cells_at HI6.out.bx).1 1
        have q2 := (cells_at HI6.out.bx).1 2
        have hNl : NN.length ≤ 1000 := by have := HI6.out.t1.le; omega
        have hNm : NN.length ≤ 1000000 := by omega
        have hN64 : (NN.length : Int) ≤ 64 := by have := HI6.out.t1.le; omega
        clear hgot2
        go_wp2_with fail
        refine (got_is HG2.out _ HI6.out.t1).mono ?_
        rintro e w7 ⟨rfl, hU7⟩
        have HI7 := Lib.hid (HI6.out.no hU7)
        clear q0 q1' q2 hU7
        have q0 := (cells_at HI7.out.bx).1 0
        have q1' := (cells_at HI7.out.bx).1 1
        have q2 := (cells_at HI7.out.bx).1 2
        go_wp2_with fail
        refine (refGot_is HG2.out _ HI7.out.rf hNl).mono ?_
        rintro e w8 ⟨rfl, hU8⟩
        have HI8 := Lib.hid (HI7.out.no hU8)
        clear q0 q1' q2 hU8
        obtain ⟨vr, hbr, hor⟩ := HI8.out.rf
        obtain ⟨ar, cr, rfl, hc1, hc2, _, _⟩ := (hor.sl entEnc).shape
        have HOR := Lib.hid hor
        have HBR := Lib.hid hbr
        have hUd : Upd No w8 w8.drew := (Upd.refl No w8).drew
        have CE8 : Hid (∀ W', Upd No w8 W' → W'.cell? ⟨g, 0, none⟩ = some (.slice ar NN.length cr)) := Lib.hid fun W' h => (cells_at (h.at HBR.out (fun h => h))).1 0
        clear hor hbr hc1 hc2
        go_wp2_with fail
        go_region_held3 (fun w' => w'.cell? ⟨g, 0, none⟩ = some (.slice ar NN.length cr))
          (first | exact CE8.out _ hUd | exact CE8.out _ hUA | exact CE8.out _ hUS)
          (first
            | (go_at_call 14; refine (len_calls b1 R NN _ (HI8.out.t1.upd hUd (fun h => h))).mono ?_; rintro e w' ⟨rfl, rfl⟩)
            | (go_at_call 11; refine (allL_calls b1 R NN _ (HI8.out.t1.upd hUd (fun h => h))).mono ?_; rintro e w9 ⟨vt, rfl, hown, hU9⟩; have hUA := hUd.trans hU9)
            | (go_at_call 13; refine (same_self (hown.sl entEnc) ((HOR.out.sl entEnc).no hUA) hNm).mono ?_; rintro e w10 ⟨rfl, hU10⟩; have hUS := hUA.trans hU10))
        have HI10 := Lib.hid (HI8.out.no hUS)
        clear hown hU9 hU10 hUA hUS hUd CE8 HOR HBR
        go_wp2_with fail
        go_roundw
        case rel => exact ⟨n + 1, NN, by omega, by go_num, HI10.out⟩
        case measure => simp [intOf]; omega
    · obtain rfl : n = l1.length := by omega
      obtain ⟨br, hbr⟩ : ∃ br, br = rightB k := ⟨_, rfl⟩
      have hr1 : ∀ W, Calls Try.prog 23 #[.agg #[.int .i64 k.1, .int .i64 k.2.1, .int .i64 k.2.2]] W fun e w' => e = .returned (.bool br) ∧ Upd No W w' := fun W => by rw [hbr]; exact right_calls k W
      have hr2 : ∀ W, Calls Try.prog 24 #[.agg #[.int .i64 k.1, .int .i64 k.2.1, .int .i64 k.2.2]] W fun e w' => e = .returned (.bool br) ∧ Upd No W w' := fun W => by rw [hbr]; exact refRight_calls k W
      have HQ1 := Lib.hid hr1
      have HQ2 := Lib.hid hr2
      have q0 := (cells_at HI.out.bx).1 0
      have q1' := (cells_at HI.out.bx).1 1
      have q2 := (cells_at HI.out.bx).1 2
      obtain ⟨x, y, z, hxy⟩ : ∃ x y z, freeV (freeOf M k.1 k.2.1 k.2.2) = .tuple #[.int .i64 x, .bool y] ∧ orLess (freeOf M k.1 k.2.1 k.2.2) = z ∧ ((x = 0 ∧ y = false ∧ z = -1) ∨ (0 ≤ x ∧ y = true ∧ z = x)) := by
        cases h : freeOf M k.1 k.2.1 k.2.2 with
        | none => exact ⟨0, false, -1, rfl, rfl, .inl ⟨rfl, rfl, rfl⟩⟩
        | some v => exact ⟨v, true, v, rfl, rfl, .inr ⟨freeFrom_ge _ _ (by omega) _ h, rfl, rfl⟩⟩
      obtain ⟨hx1, hx2, hxyz⟩ := hxy
      have HX1 := Lib.hid hx1
      have HX2 := Lib.hid hx2
      clear hbr hr1 hr2 hx1 hx2 hi hlt
      go_wp2_with fail
      refine (free_is rfl HX1.out _ HI.out.t1).mono ?_
      rintro e w5 ⟨rfl, hU5⟩
      have HI5 := Lib.hid (HI.out.no hU5)
      clear q0 q1' q2 hU5
      have q0 := (cells_at HI5.out.bx).1 0
      have q1' := (cells_at HI5.out.bx).1 1
      have q2 := (cells_at HI5.out.bx).1 2
      go_wp2_with fail
      refine (refFree_is rfl HX2.out _ HI5.out.rf hMm).mono ?_
      rintro e w6 ⟨rfl, hU6⟩
      have HI6 := Lib.hid (HI5.out.no hU6)
      clear q0 q1' q2 hU6
      have r0 : ∀ X : Later w6, X.w.cell? ⟨r, 0, none⟩ = some (.int .i64 k.1) := fun X => (cells_at (HI6.out.no X.u).bx).1 0
      have r1 : ∀ X : Later w6, X.w.cell? ⟨r, 1, none⟩ = some (.int .i64 k.2.1) := fun X => (cells_at (HI6.out.no X.u).bx).1 1
      have r2 : ∀ X : Later w6, X.w.cell? ⟨r, 2, none⟩ = some (.int .i64 k.2.2) := fun X => (cells_at (HI6.out.no X.u).bx).1 2
      rcases hxyz with ⟨rfl, rfl, rfl⟩ | ⟨hx0, rfl, rfl⟩
      all_goals
        try have hmx := Int.max_eq_left hx0
        go_wp2_with fail
        refine wp_region_upd w6 (by kernel_rfl) (by kernel_rfl) (Upd.refl No w6) ?_
        repeat (quiet_step (first | (go_at_call 23; exact quiet_upd (HQ1.out _)) | (go_at_call 24; exact quiet_upd (HQ2.out _))))
        refine wpQuiet_nil ?_
        rintro w7 ⟨⟨_, hU7⟩, rfl⟩
        have HU := Lib.hid (HI6.out.up.trans hU7)
        clear r0 r1 r2 hU7
        go_wp2_with fail
        go_ret
        exact ⟨rfl, HU.out⟩
end Go.Proofs.Ytoondlbagbgbmaa
