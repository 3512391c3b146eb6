/- The statement ConnsAgain: the walk of the law. -/
import Derived.Test.YtoondlbagbgbmaaRows
import Derived.Test.YtoondlbagbgbmaaBase
import Derived.Test.YtoondlbagbgbmaaProbe
import Derived.Test.YtoondlbagbgbmaaSorted
import Derived.Test.YtoondlbagbgbmaaTab
import Derived.Test.YtoondlbagbgbmaaConns1
import Derived.Test.YtoondlbagbgbmaaGet
import Derived.Test.YtoondlbagbgbmaaPut
import Derived.Test.YtoondlbagbgbmaaDrop
import Derived.Test.YtoondlbagbgbmaaOps
import Derived.Test.YtoondlbagbgbmaaSliceK
import Derived.Test.YtoondlbagbgbmaaGrew
import Derived.Test.YtoondlbagbgbmaaAll
import Derived.Test.YtoondlbagbgbmaaLaw9
import Derived.Test.YtoondlbagbgbmaaSame9
import Derived.Test.YtoondlbagbgbmaaAwake9
import Derived.Test.YtoondlbagbgbmaaGiveK
import Derived.Test.YtoondlbagbgbmaaPuts9
import Derived.StillTailTactics
namespace Go.Proofs.Ytoondlbagbgbmaa
open Go.RowKit Go.Shelf Go.Proofs.Tab
attribute [local go_sem] Oper.semAt_some
theorem lit_cell9 (w : World) (d : Nat) (a : Addr) : World.cell? { heap := w.heap, tape := w.tape, drawn := d, os := w.os, output := w.output } a = w.cell? a := rfl
attribute [local go_sem] lit_cell9

/-- The first part: two tables, the first one's puts. -/
structure AInv (w : World) (b1 b2 c : Nat) (M1 M2 : List Ent) (W : World) : Prop where
  t1 : TabIs W b1 64 M1
  t2 : TabIs W b2 64 M2
  cc : W.heap[c]? = some (.cells #[.pointer (some ⟨b2, 0, none⟩)] 24 (0, 0))
  up : Upd No w W
theorem AInv.grew {w : World} {b1 b2 c : Nat} {M1 M2 : List Ent} {W W' : World} {B : Nat} (h : AInv w b1 b2 c M1 M2 W) (hg : Grew B W W') (hB : w.heap.size ≤ B) : AInv w b1 b2 c M1 M2 W' :=
  ⟨h.t1.grew hg, h.t2.grew hg, hg.at h.cc, hg.upd h.up hB⟩
theorem AInv.no {w : World} {b1 b2 c : Nat} {M1 M2 : List Ent} {W W' : World} (h : AInv w b1 b2 c M1 M2 W) (hU : Upd No W W') : AInv w b1 b2 c M1 M2 W' :=
  ⟨h.t1.upd hU (fun h => h), h.t2.upd hU (fun h => h), hU.at h.cc (fun h => h), h.up.trans hU⟩
theorem AInv.one {w : World} {b1 b2 c : Nat} {M1 M1' M2 : List Ent} {W W' : World} (h : AInv w b1 b2 c M1 M2 W) (hU : Upd (One b1) W W') (ht : TabIs W' b1 64 M1') (hw : w.heap.size ≤ b1) (h12 : b2 ≠ b1) (hc : c ≠ b1) : AInv w b1 b2 c M1' M2 W' :=
  ⟨ht, h.t2.upd hU h12, hU.at h.cc hc, h.up.then hU (fun i hi hk => by rw [show i = b1 from hk] at hi; omega)⟩
theorem AInv.two {w : World} {b1 b2 c : Nat} {M1 M2 M2' : List Ent} {W W' : World} (h : AInv w b1 b2 c M1 M2 W) (hU : Upd (One b2) W W') (ht : TabIs W' b2 64 M2') (hw : w.heap.size ≤ b2) (h12 : b1 ≠ b2) (hc : c ≠ b2) : AInv w b1 b2 c M1 M2' W' :=
  ⟨h.t1.upd hU h12, ht, hU.at h.cc hc, h.up.then hU (fun i hi hk => by rw [show i = b2 from hk] at hi; omega)⟩
/-- The whole: and what was told, what was put. -/
structure A3 (w : World) (b1 b2 c D B1 B2 : Nat) (vw vp : Value) (M M1 : List Ent) (P : List Key) (W : World) : Prop where
  i : AInv w b1 b2 c M1 M W
  dd : W.heap[D]? = some (.deferred (some []))
  ow : OwnK entE 66 4 W B1 vw M
  op : OwnK keyE 29 3 W B2 vp P
theorem A3.no {w : World} {b1 b2 c D B1 B2 : Nat} {vw vp : Value} {M M1 : List Ent} {P : List Key} {W W' : World} (h : A3 w b1 b2 c D B1 B2 vw vp M M1 P W) (hU : Upd No W W') : A3 w b1 b2 c D B1 B2 vw vp M M1 P W' :=
  ⟨h.i.no hU, hU.at h.dd (fun h => h), h.ow.keep hU (fun _ _ h => h), h.op.keep hU (fun _ _ h => h)⟩
theorem A3.one {w : World} {b1 b2 c D B1 B2 : Nat} {vw vp : Value} {M M1 M1' : List Ent} {P : List Key} {W W' : World} (h : A3 w b1 b2 c D B1 B2 vw vp M M1 P W) (hU : Upd (One b1) W W') (ht : TabIs W' b1 64 M1') (hw : w.heap.size ≤ b1) (h12 : b2 ≠ b1) (hc : c ≠ b1) (hD : D ≠ b1) (h1 : b1 < B1) (h2 : b1 < B2) : A3 w b1 b2 c D B1 B2 vw vp M M1' P W' :=
  ⟨h.i.one hU ht hw h12 hc, hU.at h.dd hD, h.ow.keep hU (fun k hk e => by have := (h.ow.ge k hk).1; rw [show k = b1 from e] at this; omega), h.op.keep hU (fun k hk e => by have := (h.op.ge k hk).1; rw [show k = b1 from e] at this; omega)⟩
theorem again_early (a1 a2 : Option Addr) (n1 n2 c1 c2 : Nat) (w : World) (h : 30 < n1 ∨ 30 < n2) : Calls Try.prog 3 #[.slice a1 n1 c1, .slice a2 n2 c2] w fun e w' => e = .returned (.bool true) ∧ Upd No w w' := by
  by_cases h1 : (30 : Int) < (n1 : Int)
  · clear h
    go_enter Try.func3, Try.ntmps3
    go_wp2_with fail
    refine (awake9 _).mono ?_
    rintro e w1 ⟨rfl, hU1⟩
    go_wp2_with fail
    refine (awake9 _).mono ?_
    rintro e w2 ⟨rfl, hU2⟩
    go_wp2_with fail
    go_ret
    exact ⟨rfl, hU1.trans hU2⟩
  · have h2 : (30 : Int) < (n2 : Int) := by omega
    have h1' : (n1 : Int) ≤ 30 := by omega
    clear h h1
    go_enter Try.func3, Try.ntmps3
    go_wp2_with fail
    refine (awake9 _).mono ?_
    rintro e w1 ⟨rfl, hU1⟩
    go_wp2_with fail
    refine (awake9 _).mono ?_
    rintro e w2 ⟨rfl, hU2⟩
    go_wp2_with fail
    go_ret
    exact ⟨rfl, hU1.trans hU2⟩
set_option maxRecDepth 100000 in
set_option maxHeartbeats 1000000 in
theorem again_walk (u1 u2 : Value) (l1 l2 : List Ent) (w : World) (ha1 : ArgK entE w u1 l1) (ha2 : ArgK entE w u2 l2) (hn1 : l1.length ≤ 30) (hn2 : l2.length ≤ 30) : Calls Try.prog 3 #[u1, u2] w fun e w' => e = .returned (.bool true) ∧ Upd No w w' := by
  obtain ⟨a1, q1, rfl⟩ := ha1.shape
  obtain ⟨a2, q2, rfl⟩ := ha2.shape
  have HA1 := Lib.hid ha1
  have HA2 := Lib.hid ha2
  have hi1 : (l1.length : Int) ≤ 30 := by omega
  have hi2 : (l2.length : Int) ≤ 30 := by omega
  clear ha1 ha2
  refine calls_marks Try.func3 rfl ?_
  simp only [Try.ntmps3, List.size_toArray, List.length_cons, List.length_nil, Nat.reduceAdd, Nat.reduceSub, Array.replicate_succ, Array.replicate_zero, List.push_toArray, List.append_toArray, List.nil_append, List.cons_append]
  go_wp2_with fail
  refine (awake9 _).mono ?_
  rintro e w1 ⟨rfl, hU1⟩
  go_wp2_with fail
  refine (new_calls 64 _).mono ?_
  rintro e w2 ⟨rfl, hU2, hT2⟩
  go_wp2_with fail
  refine (new_calls 64 _).mono ?_
  rintro e w3 ⟨rfl, hU3, hT3⟩
  rw [show max 0 (min (64 : Int) 64) = 64 from by omega] at hT2 hT3
  obtain ⟨b1, hb1⟩ : ∃ b1, b1 = w1.heap.size := ⟨_, rfl⟩
  obtain ⟨b2, hb2⟩ : ∃ b2, b2 = w2.heap.size := ⟨_, rfl⟩
  rw [← hb1] at hT2 ⊢
  rw [← hb2] at hT3 ⊢
  have e1 := hU1.size
  have e2 := hT2.lt
  have e3 := hT3.lt
  have hI0 : AInv w b1 b2 w3.heap.size [] [] (w3.alloc (.cells #[.pointer (some ⟨b2, 0, none⟩)] 24)) :=
    ⟨(hT2.upd hU3 (fun h => h)).upd ((Upd.refl No w3).alloc _) (fun h => h), hT3.upd ((Upd.refl No w3).alloc _) (fun h => h), block_new _ _, ((hU1.trans hU2).trans hU3).alloc _⟩
  obtain ⟨c, hc⟩ : ∃ c, c = w3.heap.size := ⟨_, rfl⟩
  rw [← hc] at hI0
  have HI0 := Lib.hid hI0
  have HC := Lib.hid hc
  have HB2 := Lib.hid hb2
  have hwb1 : w.heap.size ≤ b1 := by omega
  have hb12 : b1 < b2 := by omega
  have hb2c : b2 < c := by omega
  clear hI0 hU1 hU2 hU3 hT2 hT3 e1 e2 e3 hb1 hb2 hc
  go_wp2_with fail
  rw [← HC.out]
  go_loopw [33] (fun i wr => ∃ k : Nat, k ≤ l1.length ∧ i = .int .i64 (k : Int) ∧ AInv w b1 b2 c (putsOf 64 [] (l1.take k)) [] wr) (fun i _ => l1.length - (intOf i).toNat)
  case atStart => exact ⟨0, Nat.zero_le _, rfl, HI0.out⟩
  case round =>
    obtain ⟨k, hk, rfl, hi⟩ := hrel
    have HI := Lib.hid hi
    by_cases hlt : k < l1.length
    · obtain ⟨x, hx⟩ : ∃ x, l1[k]? = some x := ⟨_, List.getElem?_eq_getElem hlt⟩
      obtain ⟨ba, oa, ca, hv, hca, hcm, hba, hcl⟩ := HA1.out.known entEnc (by rintro rfl; simp at hlt)
      simp only [Value.slice.injEq, true_and] at hv
      obtain ⟨rfl, rfl⟩ := hv
      have x0 := hi.up.cell ((hcl k x hx 0 (by omega)).trans rfl) (fun h => h)
      have x1 := hi.up.cell ((hcl k x hx 1 (by omega)).trans rfl) (fun h => h)
      have x2 := hi.up.cell ((hcl k x hx 2 (by omega)).trans rfl) (fun h => h)
      have x3 := hi.up.cell ((hcl k x hx 3 (by omega)).trans rfl) (fun h => h)
      simp only [Nat.add_zero] at x0
      have hk0 : (0 : Int) ≤ (k : Int) := by omega
      have hk1 : (k : Int) < (l1.length : Int) := by omega
      have hcmi : q1 ≤ 9223372036854775807 := by unfold maxLen at hcm; omega
      have HX := Lib.hid hx
      clear hi hcl hcm hx
      go_wp2
      go_still_tail 11, (by kernel_rfl)
      change wpList _ _ _ _ _ wr.drew
      have hid := HI.out.no ((Upd.refl No wr).drew)
      have HID := Lib.hid hid
      generalize wr.drew = wd at *
      clear hid x0 x1 x2 x3 HI
      go_wp2_with fail
      refine (put_calls b1 64 _ x.1 x.2 _ HID.out.t1).mono ?_
      rintro e w5 ⟨rfl, hU5, hT5⟩
      have hi5 := HID.out.one hU5 hT5 hwb1 (by omega) (by omega)
      have HI5 := Lib.hid hi5
      clear hi5 hU5 hT5
      go_wp2
      go_roundw
      case rel => exact ⟨k + 1, by omega, by go_num, by rw [putsOf_succ HX.out]; exact HI5.out⟩
      case measure => simp [intOf]; omega
    · obtain rfl : k = l1.length := by omega
      rw [List.take_length] at hi
      obtain ⟨M, hM⟩ : ∃ M, M = putsOf 64 [] l1 := ⟨_, rfl⟩
      rw [← hM] at hi
      have HI := Lib.hid hi
      clear hi hM HI0 hlt hk
      go_wp2_with fail
      refine (all_calls _ _).mono ?_
      rintro e w5 ⟨rfl, hw5⟩
      have hU5 : Upd No wr w5 := by rw [hw5]; exact (Upd.refl _ _).alloc _
      have hc5 : w5.heap[wr.heap.size]? = some (.cells #[.pointer (some ⟨b1, 0, none⟩)] 24 (0, 0)) := by rw [hw5]; exact block_new _ _
      have hs5 := heap_lt hc5
      have HI5 := Lib.hid (HI.out.no hU5)
      have HC5 := Lib.hid (show w5.cell? ⟨wr.heap.size, 0, none⟩ = some (.pointer (some ⟨b1, 0, none⟩)) from (cells_at hc5).1 0)
      have hcw : c < w5.heap.size := heap_lt HI5.out.cc
      have hwsz := HI.out.up.size
      have HSRT := Lib.hid HI.out.t1.sorted
      have HRGT := Lib.hid HI.out.t1.right
      have HLE := Lib.hid HI.out.t1.le
      clear hw5 hc5 hU5
      go_wp2_with fail
      refine range_out (gf := 26) (lb := #[.pointer (some ⟨wr.heap.size, 0, none⟩)]) rfl (enters_of Try.func26 (by kernel_rfl) rfl)
        (all_iter wr.heap.size b1 64 M w5 HC5.out HI5.out.t1)
        (fun k o h => .inr (by obtain ⟨c, m, rfl⟩ := h; rfl)) (fun _ => rfl)
        (fun pre W => AInv w b1 b2 c M pre W) (fun _ _ _ => False) (ownFrom_grew fun _ _ _ hg h => h.grew hg (by omega)) (fun _ => ownFrom_false) HI5.out ?round ?done ?stop
      case stop =>
        rintro D cd pre W _ _ h _
        exact h.elim
      case round =>
        intro l pre x post W hx hl hi
        have hput := put_is (b := b2) (putOf_pre hx HSRT.out HRGT.out (by have := HLE.out; omega))
        have HPUT := Lib.hid hput
        have hU1b : Upd No W (W.alloc (.cells #[.int .i64 x.1.1, .int .i64 x.1.2.1, .int .i64 x.1.2.2] 29)) := (Upd.refl _ W).alloc _
        have hI2 := hi.no hU1b
        have hkb := block_new W (.cells #[.int .i64 x.1.1, .int .i64 x.1.2.1, .int .i64 x.1.2.2] 29)
        have HI2 := Lib.hid hI2
        have HKB := Lib.hid hkb
        clear hi hx hI2 hkb hput
        unfold entV
        gi_wp2
        refine ⟨hU1b.keepsFrom (fun _ _ h => h.elim), hU1b.keeps (fun _ _ h => h.elim), fun W' => AInv w b1 b2 c M pre W' ∧ W'.heap[W.heap.size]? = some (.cells #[.int .i64 x.1.1, .int .i64 x.1.2.1, .int .i64 x.1.2.2] 29 (0, 0)), ?_, ⟨HI2.out, HKB.out⟩, ?_⟩
        · exact ownFrom_grew (β := Unit) fun _ _ _ hg ⟨h1, h4⟩ => ⟨h1.grew hg (by omega), hg.at h4⟩
        clear hU1b HI2 HKB
        rintro Wb _ ⟨bi, bk⟩
        have f1 := (cells_at bi.cc).1 0
        have g0 := (cells_at bk).1 0
        have g1 := (cells_at bk).1 1
        have g2 := (cells_at bk).1 2
        have BI := Lib.hid bi
        clear bi bk
        gi_wp2_with fail
        refine ⟨trivial, (to_round (HPUT.out _ BI.out.t2)).mono ?_⟩
        rintro e Wc ⟨rfl, hUc, hTc⟩
        have hic := BI.out.two hUc hTc (by omega) (by omega) (by omega)
        have HIC := Lib.hid hic
        have HUC := Lib.hid hUc
        clear hic hUc hTc f1 g0 g1 g2
        gi_wp2
        obtain ⟨S2, hS2, _⟩ := BI.out.t2
        refine ⟨HUC.out.keepsFrom ?_, HUC.out.keeps ?_, HIC.out⟩
        · rintro k o rfl hB ho
          rw [hS2] at ho; cases ho; rfl
        · rintro k o rfl ho ⟨cc, m, rfl⟩
          rw [hS2] at ho; simp at ho
      case done =>
        intro D W hD hi hK
        have HI6 := Lib.hid hi
        have HK := Lib.hid hK
        clear hi hK
        go_wp2_with fail
        refine (allL_calls _ 64 M _ HI6.out.t1).mono ?_
        rintro e w7 ⟨vw, rfl, hown7, hU7⟩
        have hb1W := HI6.out.t1.lt
        have hD7 := heap_lt HK.out
        have hs7 : W.heap.size ≤ w7.heap.size := hU7.size
        have HVW := Lib.hid (fun k (h : vw.ownBlock = some k) => (hown7.ge k h).2)
        obtain ⟨B2, hB2⟩ : ∃ B2, B2 = w7.heap.size := ⟨_, rfl⟩
        have hA7 : A3 w b1 b2 c D W.heap.size B2 vw (.slice none 0 0) M M [] w7 := ⟨HI6.out.no hU7, hU7.at HK.out (fun h => h), hown7, OwnK.nil _ _⟩
        have HA7 := Lib.hid hA7
        have hDb : b1 < D := by have := HI5.out.t1.lt; omega
        have hWw : w.heap.size ≤ W.heap.size := HI6.out.up.size
        have hB2i : B2 ≤ w7.heap.size := Nat.le_of_eq hB2
        have hBW : W.heap.size ≤ B2 := by rw [hB2]; exact hs7
        rw [← hB2] at HVW
        clear hown7 hU7 hA7 HI6 HK hB2 hs7
        go_wp2_with fail
        go_loopw [11, 61] (fun vp i wr => ∃ (k : Nat) (P : List Key) (M1 : List Ent), k ≤ l2.length ∧ P.length ≤ k ∧ i = .int .i64 (k : Int) ∧ A3 w b1 b2 c D W.heap.size B2 vw vp M M1 P wr ∧ Chain M P M1 ∧ B2 ≤ wr.heap.size) (fun _ i _ => l2.length - (intOf i).toNat)
        case atStart => exact ⟨0, [], M, Nat.zero_le _, Nat.zero_le _, rfl, HA7.out, Chain.nil M, hB2i⟩
        case round =>
          obtain ⟨k, P, M1, hk, hPk, rfl, hi, hch, hsz⟩ := hrel
          have HI := Lib.hid hi
          have HCH := Lib.hid hch
          clear hch
          by_cases hlt : k < l2.length
          · obtain ⟨x, hx⟩ : ∃ x, l2[k]? = some x := ⟨_, List.getElem?_eq_getElem hlt⟩
            obtain ⟨ba, oa, ca, hv, hca, hcm, hba, hcl⟩ := HA2.out.known entEnc (by rintro rfl; simp at hlt)
            simp only [Value.slice.injEq, true_and] at hv
            obtain ⟨rfl, rfl⟩ := hv
            have x0 := hi.i.up.cell ((hcl k x hx 0 (by omega)).trans rfl) (fun h => h)
            have x1 := hi.i.up.cell ((hcl k x hx 1 (by omega)).trans rfl) (fun h => h)
            have x2 := hi.i.up.cell ((hcl k x hx 2 (by omega)).trans rfl) (fun h => h)
            have x3 := hi.i.up.cell ((hcl k x hx 3 (by omega)).trans rfl) (fun h => h)
            simp only [Nat.add_zero] at x0
            have hk0 : (0 : Int) ≤ (k : Int) := by omega
            have hk1 : (k : Int) < (l2.length : Int) := by omega
            have hcmi : q2 ≤ 9223372036854775807 := by unfold maxLen at hcm; omega
            have HX := Lib.hid hx
            have HCL := Lib.hid hcl
            obtain ⟨r1, r2, hr⟩ : ∃ r1 r2, putOf 64 M1 x.1 x.2 = (r1, r2) := ⟨_, _, rfl⟩
            have hput := put_is (b := b1) hr
            have HPUT := Lib.hid hput
            have HR := Lib.hid hr
            clear hi hcl hcm hx hput hr
            go_wp2
            go_still_tail 11, (by kernel_rfl)
            change wpList _ _ _ _ _ wr.drew
            have hid := HI.out.no ((Upd.refl No wr).drew)
            have HID := Lib.hid hid
            have hszd : B2 ≤ wr.drew.heap.size := hsz
            generalize wr.drew = wd at *
            clear hid x0 x1 x2 x3 HI hsz
            go_wp2_with fail
            refine (HPUT.out _ HID.out.i.t1).mono ?_
            rintro e w8 ⟨rfl, hU8, hT8⟩
            have hi8 := HID.out.one hU8 hT8 hwb1 (by omega) (by omega) (by omega) hb1W (by omega)
            have HI8 := Lib.hid hi8
            have hsz8 : B2 ≤ w8.heap.size := Nat.le_trans hszd hU8.size
            clear hi8 hU8 hT8
            by_cases h0 : r1 = 0
            · subst h0
              have hok := putOf_ok (room := 64) (M := M1) (k := x.1) (n := x.2) (by rw [HR.out])
              rw [HR.out] at hok
              have HOK := Lib.hid hok
              clear hok
              have y0 := HI8.out.i.up.cell ((HCL.out k x HX.out 0 (by omega)).trans rfl) (fun h => h)
              have y1 := HI8.out.i.up.cell ((HCL.out k x HX.out 1 (by omega)).trans rfl) (fun h => h)
              have y2 := HI8.out.i.up.cell ((HCL.out k x HX.out 2 (by omega)).trans rfl) (fun h => h)
              simp only [Nat.add_zero] at y0
              go_wp2_with (with_reducible refine stop_builtin .append ?_)
              have hU9a : Upd No w8 (w8.alloc (.cells #[.int .i64 x.1.1, .int .i64 x.1.2.1, .int .i64 x.1.2.2] 29)) := (Upd.refl No w8).alloc _
              have hi9 := HI8.out.no hU9a
              have HI9 := Lib.hid hi9
              have hsz9 : B2 ≤ (w8.alloc (.cells #[.int .i64 x.1.1, .int .i64 x.1.2.1, .int .i64 x.1.2.2] 29)).heap.size := by rw [World.size_alloc]; omega
              clear hi9 y0 y1 y2
              refine on (wpList_app_k keyT keyEnc rfl (.tmp 77) (.tmp 83) rfl B2 _ _ P [x.1] rfl rfl HI9.out.op (SlK.one keyEnc (x := x.1) (block_new _ _)) (by simp only [List.length_cons, List.length_nil]; omega) hsz9 ?_)
              intro vp' w10 hown10 hgr
              have hU10 := (Upd.refl (fun g => B2 ≤ g) _).grown hgr (fun g h => .inr ((HI9.out.op.ge g h).1))
              have hi10 : A3 w b1 b2 c D W.heap.size B2 vw vp' M r2 (P ++ [x.1]) w10 :=
                ⟨⟨HI9.out.i.t1.upd hU10 (by omega), HI9.out.i.t2.upd hU10 (by omega), hU10.at HI9.out.i.cc (by omega), HI9.out.i.up.then hU10 (fun j hj h => by omega)⟩,
                  hU10.at HI9.out.dd (by omega), HI9.out.ow.keep hU10 (fun k hk => by have := HVW.out k hk; omega), hown10⟩
              have hch10 : Chain M (P ++ [x.1]) r2 := by rw [HOK.out.2]; exact HCH.out.snoc HID.out.i.t1.sorted HOK.out.1
              have hsz10 := Nat.le_trans hsz9 hU10.size
              have HI10 := Lib.hid hi10
              have HCH10 := Lib.hid hch10
              clear hi10 hch10 hown10 hgr hU10
              go_wp2
              go_roundw
              case rel => exact ⟨k + 1, P ++ [x.1], r2, by omega, by simp; omega, by go_num, HI10.out, HCH10.out, hsz10⟩
              case measure => simp [intOf]; omega
            · have hne : (r1 == 0) = false := by simpa using h0
              have hr2 : r2 = M1 := by have := putOf_not (room := 64) (M := M1) (k := x.1) (n := x.2) (by rw [HR.out]; exact h0); rw [HR.out] at this; exact this
              have HR2 := Lib.hid hr2
              clear h0 hr2
              go_wp2
              go_roundw
              case rel => exact ⟨k + 1, P, M1, by omega, by omega, by go_num, by have := HI8.out; rw [HR2.out] at this; exact this, HCH.out, hsz8⟩
              case measure => simp [intOf]; omega
          · obtain rfl : k = l2.length := by omega
            clear hlt hk hsz
            rcases HI.out.op.form with ⟨hv, hP⟩ | ⟨g, cap, hv, hc1, hm1, _, _⟩
            · subst hv hP
              have hMM : M1 = M := by obtain ⟨F, f0, f1, _⟩ := HCH.out; rw [← f0, ← f1]; rfl
              subst hMM
              clear hi
              go_wp2_with fail
              go_loopw [88] (fun i wr' => i = .int .i64 0 ∧ A3 w b1 b2 c D W.heap.size B2 vw (.slice none 0 0) M1 M1 [] wr') (fun _ _ => 0)
              case atStart => exact ⟨rfl, HI.out⟩
              case round =>
                obtain ⟨rfl, hz⟩ := hrel
                have HZ := Lib.hid hz
                clear hz
                go_wp2_with fail
                refine (allL_calls _ 64 M1 _ HZ.out.i.t1).mono ?_
                rintro e w11 ⟨vt, rfl, hown11, hU11⟩
                have HZ11 := Lib.hid (HZ.out.no hU11)
                have HT11 := Lib.hid (hown11.sl entEnc)
                clear hown11 hU11
                have hM64 : M1.length ≤ 1000000 := by have := HLE.out; omega
                go_wp2_with fail
                refine (same9_calls _ _ M1 M1 _ HT11.out (HZ11.out.ow.sl entEnc) hM64 hM64).mono ?_
                rintro e w12 ⟨rfl, hU12⟩
                have HZ12 := Lib.hid (HZ11.out.no hU12)
                rw [show decide (M1 = M1) = true from by simp]
                have cc12 := (cells_at HZ12.out.i.cc).1 0
                clear hU12
                go_wp2_with fail
                clear cc12
                refine (allL_calls _ 64 M1 _ HZ12.out.i.t2).mono ?_
                rintro e w13 ⟨vt2, rfl, hown13, hU13⟩
                have HZ13 := Lib.hid (HZ12.out.no hU13)
                have HT13 := Lib.hid (hown13.sl entEnc)
                clear hown13 hU13
                go_wp2_with fail
                refine (same9_calls _ _ M1 M1 _ HT13.out (HZ13.out.ow.sl entEnc) hM64 hM64).mono ?_
                rintro e w14 ⟨rfl, hU14⟩
                have HZ14 := Lib.hid (HZ13.out.no hU14)
                rw [show decide (M1 = M1) = true from by simp]
                clear hU14
                go_wp2_with fail
                refine fin_marks (B := w.heap.size) _ [D] w14 (by simp) (by simp; exact ⟨by omega, HZ14.out.dd⟩) (fun W' hW' => ⟨_, results_tmp rfl _ _ _, rfl, hW'.upd HZ14.out.i.up (Nat.le_refl _)⟩)
            · subst hv
              clear hi
              have hcapi : cap ≤ 9223372036854775807 := by unfold maxLen at hm1; omega
              have hPi : (P.length : Int) ≤ 30 := by omega
              go_wp2_with fail
              go_loopw [88] (fun i wr' => ∃ (k : Nat) (M2 : List Ent), k ≤ P.length ∧ i = .int .i64 (k : Int) ∧ A3 w b1 b2 c D W.heap.size B2 vw (.slice (some ⟨g, 0, none⟩) P.length cap) M M2 P wr' ∧ Chain M (P.take (P.length - k)) M2) (fun i _ => P.length - (intOf i).toNat)
              case atStart => exact ⟨0, M1, Nat.zero_le _, rfl, HI.out, by rw [Nat.sub_zero, List.take_length]; exact HCH.out⟩
              case round =>
                obtain ⟨k, M2, hk, rfl, hz, hch⟩ := hrel
                have HZ := Lib.hid hz
                by_cases hlt : k < P.length
                · obtain ⟨j, hj⟩ : ∃ j, j = P.length - 1 - k := ⟨_, rfl⟩
                  have hjP : j < P.length := by omega
                  obtain ⟨x, hx⟩ : ∃ x, P[j]? = some x := ⟨_, List.getElem?_eq_getElem hjP⟩
                  have hcl := ((hz.op.sl keyEnc).at keyEnc).2.2.2.2 j x hx
                  have y0 : wr.cell? ⟨g, 0 + j * 3 + 0, none⟩ = some (.int .i64 x.1) := hcl 0 (by omega)
                  have y1 : wr.cell? ⟨g, 0 + j * 3 + 1, none⟩ = some (.int .i64 x.2.1) := hcl 1 (by omega)
                  have y2 : wr.cell? ⟨g, 0 + j * 3 + 2, none⟩ = some (.int .i64 x.2.2) := hcl 2 (by omega)
                  simp only [Nat.add_zero, Nat.zero_add] at y0 y1 y2
                  rw [hj] at y0 y1 y2
                  have hlast := Chain.last hch (i := j) (by rw [List.length_take]; omega) (by rw [List.getElem?_take_of_lt (by omega)]; exact hx)
                  obtain ⟨M0, hch0, hthere, hdel⟩ := hlast
                  rw [List.take_take, Nat.min_eq_left (by omega)] at hch0
                  have hdc := drop_calls b1 64 M2 x
                  obtain ⟨y, hy⟩ := Option.isSome_iff_exists.1 hthere
                  have hdrop : ∀ W, TabIs W b1 64 M2 → Calls Try.prog 12 #[.pointer (some ⟨b1, 0, none⟩), .agg #[.int .i64 x.1, .int .i64 x.2.1, .int .i64 x.2.2]] W fun e w' => e = .returned (.tuple #[.int .i64 y.2, .bool true]) ∧ Upd (One b1) W w' ∧ TabIs w' b1 64 M0 := fun W h => by
                    refine (hdc W h).mono ?_
                    rintro e w' ⟨rfl, h1, h2⟩
                    exact ⟨by rw [hy]; rfl, h1, by rw [← hdel]; exact h2⟩
                  have HDR := Lib.hid hdrop
                  have HCH0 := Lib.hid hch0
                  have HJ := Lib.hid hj
                  clear hz hcl hch hx hch0 hthere hdel hdc hy hdrop hj
                  go_wp2_with fail
                  refine (HDR.out _ HZ.out.i.t1).mono ?_
                  rintro e w8 ⟨rfl, hU8, hT8⟩
                  have hz8 := HZ.out.one hU8 hT8 hwb1 (by omega) (by omega) (by omega) hb1W (by omega)
                  have HZ8 := Lib.hid hz8
                  clear hz8 hU8 hT8 y0 y1 y2
                  go_wp2
                  go_roundw
                  case rel => exact ⟨k + 1, M0, by omega, by go_num, HZ8.out, by rw [show P.length - (k + 1) = j from by have := HJ.out; omega]; exact HCH0.out⟩
                  case measure => simp [intOf]; omega
                · obtain rfl : k = P.length := by omega
                  have hMM : M2 = M := by
                    rw [Nat.sub_self, List.take_zero] at hch
                    obtain ⟨F, f0, f1, _⟩ := hch
                    rw [← f0, ← f1]; rfl
                  subst hMM
                  clear hz hch hk hlt
                  go_wp2_with fail
                  refine (allL_calls _ 64 M2 _ HZ.out.i.t1).mono ?_
                  rintro e w11 ⟨vt, rfl, hown11, hU11⟩
                  have HZ11 := Lib.hid (HZ.out.no hU11)
                  have HT11 := Lib.hid (hown11.sl entEnc)
                  clear hown11 hU11
                  have hM64 : M2.length ≤ 1000000 := by have := HLE.out; omega
                  go_wp2_with fail
                  refine (same9_calls _ _ M2 M2 _ HT11.out (HZ11.out.ow.sl entEnc) hM64 hM64).mono ?_
                  rintro e w12 ⟨rfl, hU12⟩
                  have HZ12 := Lib.hid (HZ11.out.no hU12)
                  rw [show decide (M2 = M2) = true from by simp]
                  have cc12 := (cells_at HZ12.out.i.cc).1 0
                  clear hU12
                  go_wp2_with fail
                  clear cc12
                  refine (allL_calls _ 64 M2 _ HZ12.out.i.t2).mono ?_
                  rintro e w13 ⟨vt2, rfl, hown13, hU13⟩
                  have HZ13 := Lib.hid (HZ12.out.no hU13)
                  have HT13 := Lib.hid (hown13.sl entEnc)
                  clear hown13 hU13
                  go_wp2_with fail
                  refine (same9_calls _ _ M2 M2 _ HT13.out (HZ13.out.ow.sl entEnc) hM64 hM64).mono ?_
                  rintro e w14 ⟨rfl, hU14⟩
                  have HZ14 := Lib.hid (HZ13.out.no hU14)
                  rw [show decide (M2 = M2) = true from by simp]
                  clear hU14
                  go_wp2_with fail
                  refine fin_marks (B := w.heap.size) _ [D] w14 (by simp) (by simp; exact ⟨by omega, HZ14.out.dd⟩) (fun W' hW' => ⟨_, results_tmp rfl _ _ _, rfl, hW'.upd HZ14.out.i.up (Nat.le_refl _)⟩)
end Go.Proofs.Ytoondlbagbgbmaa
