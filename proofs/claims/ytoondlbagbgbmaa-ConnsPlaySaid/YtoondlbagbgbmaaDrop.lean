/- conns: Drop. -/
import Derived.Test.YtoondlbagbgbmaaRows
import Derived.Test.YtoondlbagbgbmaaBase
import Derived.Test.YtoondlbagbgbmaaProbe
import Derived.Test.YtoondlbagbgbmaaSorted
import Derived.Test.YtoondlbagbgbmaaHome
import Derived.Test.YtoondlbagbgbmaaTab
import Derived.Test.YtoondlbagbgbmaaEq
import Derived.Test.YtoondlbagbgbmaaFind
import Derived.Test.YtoondlbagbgbmaaConns1
import Derived.Test.YtoondlbagbgbmaaGet
import Derived.Deep.RegionHeld3
import Derived.Deep.DrawnRows
namespace Go.Proofs.Ytoondlbagbgbmaa
open Go.RowKit Go.Shelf Go.Proofs.Tab
attribute [local go_sem] Oper.semAt_some
attribute [local go_sem ↓] Go.wp_at_zero Go.wp_at_succ

theorem drop_nil (k : Key) (w : World) : Calls Try.prog 12 #[.pointer none, .agg #[.int .i64 k.1, .int .i64 k.2.1, .int .i64 k.2.2]] w fun e w' => e = .returned (.tuple #[.int .i64 0, .bool false]) ∧ Upd No w w' := by
  have hg : ∀ w, Calls Try.prog 19 #[.pointer none, .agg #[.int .i64 k.1, .int .i64 k.2.1, .int .i64 k.2.2]] w fun e w' => e = .returned (.tuple #[.int .i64 0, .bool false]) ∧ Upd No w w' := fun w => get_nil k w
  go_enter Try.func12, Try.ntmps12
  go_wp2_with (go_at_call 19; refine (hg _).mono ?_; rintro e w1 ⟨rfl, hU⟩)
  go_ret2
  exact ⟨rfl, ((Upd.refl _ w).alloc _).trans hU⟩
theorem drop_none (b : Nat) (room : Int) (M : List Ent) (k : Key) (w : World) (hT : TabIs w b room M) (hl : lookK Prod.fst M k = none) : Calls Try.prog 12 #[.pointer (some ⟨b, 0, none⟩), .agg #[.int .i64 k.1, .int .i64 k.2.1, .int .i64 k.2.2]] w fun e w' => e = .returned (gotV none) ∧ Upd No w w' := by
  have hg : ∀ w, TabIs w b room M → Calls Try.prog 19 #[.pointer (some ⟨b, 0, none⟩), .agg #[.int .i64 k.1, .int .i64 k.2.1, .int .i64 k.2.2]] w fun e w' => e = .returned (.tuple #[.int .i64 0, .bool false]) ∧ Upd No w w' := fun w hT => get_none b room M k w hT hl
  have HT := Lib.hid hT
  clear hl hT
  go_enter Try.func12, Try.ntmps12
  go_wp2_with (go_at_call 19; refine (hg _ (HT.out.upd ((Upd.refl No _).alloc _) (fun h => h))).mono ?_; rintro e w1 ⟨rfl, hU⟩)
  go_ret2
  exact ⟨rfl, ((Upd.refl _ w).alloc _).trans hU⟩
set_option maxRecDepth 100000 in
set_option maxHeartbeats 1000000 in
theorem drop_some (b : Nat) (room : Int) (M : List Ent) (k : Key) (n : Int) (w : World) (hT : TabIs w b room M) (hl : lookK Prod.fst M k = some (k, n)) : Calls Try.prog 12 #[.pointer (some ⟨b, 0, none⟩), .agg #[.int .i64 k.1, .int .i64 k.2.1, .int .i64 k.2.2]] w fun e w' => e = .returned (gotV (some (k, n))) ∧ Upd (One b) w w' ∧ TabIs w' b room (delK Prod.fst M k) := by
  have hg : ∀ w, TabIs w b room M → Calls Try.prog 19 #[.pointer (some ⟨b, 0, none⟩), .agg #[.int .i64 k.1, .int .i64 k.2.1, .int .i64 k.2.2]] w fun e w' => e = .returned (.tuple #[.int .i64 n, .bool true]) ∧ Upd No w w' := fun w hT => get_some b room M k n w hT hl
  have HTI := Lib.hid hT
  obtain ⟨S, hT, hI, hM, hs, hR, h1, h2⟩ := hT
  obtain ⟨o, ho, hfree⟩ := tab_free hI hM h1 h2
  have hlen := length_del hs hl
  have HT := Lib.hid hT
  have HF := Lib.hid hfree
  have KEY : Hid (∀ i, Seek homeOf S k i → S i = some (k, n)) := Lib.hid (fun i hf => by rw [seek_look hI hM hs hf, hl])
  have HI := Lib.hid hI
  have HM := Lib.hid hM
  have HS := Lib.hid hs
  have HR := Lib.hid hR
  have HL := Lib.hid hl
  have HN := Lib.hid hlen
  have hpos : 1 ≤ (M.length : Int) := by omega
  clear hl hT hfree hI hM hs hR hlen
  go_enter Try.func12, Try.ntmps12
  go_wp2_with (first | (go_at_call 19; refine (hg _ (HTI.out.upd ((Upd.refl No _).alloc _) (fun h => h))).mono ?_; rintro e w1 ⟨rfl, hU⟩; have hbx := cells_at (hU.at (block_new w _) (fun h => h)); have hb0 := hbx.1 0; have hb1 := hbx.1 1; have hb2 := hbx.1 2; clear hbx) | (go_at_call 25; refine (find_calls b S _ room k _ ((HT.out.alloc _).upd hU (fun h => h)) o ho HF.out).mono ?_; rintro e w2 ⟨i, rfl, hfd, hU2⟩; have hTW := ((HT.out.alloc _).upd hU (fun h => h)).upd hU2 (fun h => h); obtain ⟨hT0, hT1, hT2, hT3, hT4⟩ := hTW.atSome hfd.lt (KEY.out i hfd); have hi0 : (0 : Int) ≤ (i : Int) := Int.natCast_nonneg i; have hi1 : (i : Int) < 128 := Int.ofNat_lt.2 hfd.lt; have hTf := hTW.free; have hT5 := hTW.len; have HTW := Lib.hid hTW; clear hTW))
  have hT3 := (HTW.out.set5 hfd.lt none (v0 := .int .i64 0) (v1 := .int .i64 0) (v2 := .int .i64 0) (v3 := .int .i64 0) (v4 := .bool false) rfl).setLen ((M.length : Int) - 1)
  have hU3 : Upd (One b) w _ := ((((((Upd.refl _ w).alloc _).trans hU).trans hU2).mono (T := One b) (fun _ _ h => h.elim)).set5 (g := b) (o0 := i * 5) (o1 := i * 5 + 1) (o2 := i * 5 + 2) (o3 := i * 5 + 3) (o4 := i * 5 + 4) (.inr rfl) (.int .i64 0) (.int .i64 0) (.int .i64 0) (.int .i64 0) (.bool false)).setCell (p := ⟨b, 640, none⟩) (.inr rfl) (.int .i64 ((M.length : Int) - 1))
  generalize hw3 : (((((w2.setCell ⟨b, i * 5, none⟩ (.int .i64 0)).setCell ⟨b, i * 5 + 1, none⟩ (.int .i64 0)).setCell ⟨b, i * 5 + 2, none⟩ (.int .i64 0)).setCell ⟨b, i * 5 + 3, none⟩ (.int .i64 0)).setCell ⟨b, i * 5 + 4, none⟩ (.bool false)).setCell ⟨b, 640, none⟩ (.int .i64 ((M.length : Int) - 1)) = w3 at *
  have HMID := Lib.hid (Mid.start homeOf_lt HI.out ho HF.out hfd.lt (KEY.out i hfd))
  have HT3 := Lib.hid hT3
  clear hw3 hT0 hT1 hT2 hT3 hT4 hT5 hTf hb0 hb1 hb2 HTW hg
  have hj0 : ((i : Int) + 1) % 128 = (((i + 1) % 128 : Nat) : Int) := by omega
  have HJ := Lib.hid hj0
  clear hj0
  go_loopw [8] (fun v wr => ∃ (S' : Nat → Option Ent) (j : Nat), v = .int .i64 (j : Int) ∧ TabAt wr b S' ((M.length : Int) - 1) room ∧ Mid homeOf S' o j ∧ (∀ e, Holds S' e ↔ Holds (put S i none) e) ∧ Upd (One b) w wr)
    (fun v _ => (o + 128 - (intOf v).toNat) % 128)
  case atStart => exact ⟨_, (i + 1) % 128, by rw [HJ.out], HT3.out, HMID.out, fun e => Iff.rfl, hU3⟩
  case round =>
    obtain ⟨S', j, rfl, hTr, hmid, hsame, hUr⟩ := hrel
    have hj := hmid.jlt
    have hi0 : (0 : Int) ≤ (j : Int) := Int.natCast_nonneg j
    have hi1 : (j : Int) < 128 := Int.ofNat_lt.2 hj
    have HTR := Lib.hid hTr
    have HMR := Lib.hid hmid
    have HSAME := Lib.hid hsame
    cases hs : S' j with
    | none =>
      obtain ⟨hT0, hT1, hT2, hT3, hT4⟩ := hTr.atNone hj hs
      have HS0 := Lib.hid hs
      clear hTr hmid hsame hs
      go_wp2
      go_ret2
      refine ⟨rfl, hUr, S', ?_, HMR.out.done homeOf_lt HS0.out, fun e => ?_, sorted_del HS.out _, fun e he => HR.out e (mem_del.1 he).1, ?_, h2⟩
      · have : ((delK Prod.fst M k).length : Int) = (M.length : Int) - 1 := by have := HN.out; omega
        rw [this]
        exact HTR.out
      · rw [HSAME.out e, holds_free HI.out.uniq hfd.lt (KEY.out i hfd), mem_del, HM.out e]
        exact And.comm
      · have := HN.out; omega
    | some s =>
      obtain ⟨k2, n2⟩ := s
      obtain ⟨hT0, hT1, hT2, hT3, hT4⟩ := hTr.atSome hj hs
      have hTf := hTr.free
      have hbl : b < wr.heap.size := hTr.lt
      have hbn : b ≠ wr.heap.size := Nat.ne_of_lt hTr.lt
      have HS0 := Lib.hid hs
      clear hTr hmid hsame hs
      go_wp2
      have hT4' := (HTR.out.set5 hj none (v0 := .int .i64 0) (v1 := .int .i64 0) (v2 := .int .i64 0) (v3 := .int .i64 0) (v4 := .bool false) rfl).alloc (.cells #[.int .i64 k2.1, .int .i64 k2.2.1, .int .i64 k2.2.2, .int .i64 n2, .bool true] 56)
      have hU4 : Upd (One b) w _ := (hUr.set5 (g := b) (o0 := j * 5) (o1 := j * 5 + 1) (o2 := j * 5 + 2) (o3 := j * 5 + 3) (o4 := j * 5 + 4) (.inr rfl) (.int .i64 0) (.int .i64 0) (.int .i64 0) (.int .i64 0) (.bool false)).alloc (.cells #[.int .i64 k2.1, .int .i64 k2.2.1, .int .i64 k2.2.2, .int .i64 n2, .bool true] 56)
      have hbk := block_new (((((wr.setCell ⟨b, j * 5, none⟩ (.int .i64 0)).setCell ⟨b, j * 5 + 1, none⟩ (.int .i64 0)).setCell ⟨b, j * 5 + 2, none⟩ (.int .i64 0)).setCell ⟨b, j * 5 + 3, none⟩ (.int .i64 0)).setCell ⟨b, j * 5 + 4, none⟩ (.bool false)) (.cells #[.int .i64 k2.1, .int .i64 k2.2.1, .int .i64 k2.2.2, .int .i64 n2, .bool true] 56)
      generalize hw4 : (((((wr.setCell ⟨b, j * 5, none⟩ (.int .i64 0)).setCell ⟨b, j * 5 + 1, none⟩ (.int .i64 0)).setCell ⟨b, j * 5 + 2, none⟩ (.int .i64 0)).setCell ⟨b, j * 5 + 3, none⟩ (.int .i64 0)).setCell ⟨b, j * 5 + 4, none⟩ (.bool false)).alloc (.cells #[.int .i64 k2.1, .int .i64 k2.2.1, .int .i64 k2.2.2, .int .i64 n2, .bool true] 56) = w4 at *
      have hsz : (((((wr.setCell ⟨b, j * 5, none⟩ (.int .i64 0)).setCell ⟨b, j * 5 + 1, none⟩ (.int .i64 0)).setCell ⟨b, j * 5 + 2, none⟩ (.int .i64 0)).setCell ⟨b, j * 5 + 3, none⟩ (.int .i64 0)).setCell ⟨b, j * 5 + 4, none⟩ (.bool false)).heap.size = wr.heap.size := by simp
      rw [hsz] at hbk
      obtain ⟨B, hB⟩ : ∃ B, B = wr.heap.size := ⟨_, rfl⟩
      rw [← hB] at hbk hbn ⊢
      have HBK := Lib.hid hbk
      have HT4 := Lib.hid hT4'
      have hcc := cells_at hbk
      have hb0 := hcc.1 0
      have hb1 := hcc.1 1
      have hb2 := hcc.1 2
      have hb3 := hcc.1 3
      have hb4 := hcc.1 4
      clear hw4 hsz hB hT4' hbk hT0 hT1 hT2 hT3 hT4 hTf hcc
      have hfre : put S' j none o = none := by
        rw [put_other (by rintro rfl; have := HMR.out.free; rw [HS0.out] at this; cases this)]; exact HMR.out.free
      have HFR := Lib.hid hfre
      clear hfre
      have hj1 : ((j : Int) + 1) % 128 = (((j + 1) % 128 : Nat) : Int) := by omega
      have HJ1 := Lib.hid hj1
      have hjo : j ≠ o := by rintro rfl; have := HMR.out.free; rw [HS0.out] at this; cases this
      have hmeas : (o + 128 - (j + 1) % 128) % 128 < (o + 128 - j) % 128 := by omega
      have HMS := Lib.hid hmeas
      clear hj1 hmeas
      go_region_with (go_at_call 25; refine (find_calls b (put S' j none) _ room k2 _ (by exact HT4.out) o ho HFR.out).mono ?_; rintro e w5 ⟨f, rfl, hfd2, hU5⟩; have hTW := HT4.out.drew.upd hU5 (fun h => h); have hstep := HMR.out.step homeOf_lt HS0.out hfd2; obtain ⟨hT0, hT1, hT2, hT3, hT4⟩ := hTW.atNone hfd2.lt hstep.1; have HST := Lib.hid hstep; have HTW := Lib.hid hTW; have hf0 : (0 : Int) ≤ (f : Int) := Int.natCast_nonneg f; have hf1 : (f : Int) < 128 := Int.ofNat_lt.2 hfd2.lt; have hTf := hTW.free; have hcc := cells_at (hU5.at HBK.out (fun h => h)); have hd0 := hcc.1 0; have hd1 := hcc.1 1; have hd2 := hcc.1 2; have hd3 := hcc.1 3; have hd4 := hcc.1 4; clear hTW hstep hcc)
      all_goals
        go_wp2
        go_roundw
        case rel =>
          refine ⟨put (put S' j none) f (some (k2, n2)), (j + 1) % 128, by rw [HJ1.out], ?_, HST.out.2, fun e => (holds_move hj hfd2.lt HS0.out HST.out.1 e).trans (HSAME.out e), ?_⟩
          · exact HTW.out.set5 hfd2.lt (some (k2, n2)) (v0 := .int .i64 k2.1) (v1 := .int .i64 k2.2.1) (v2 := .int .i64 k2.2.2) (v3 := .int .i64 n2) (v4 := .bool true) rfl
          · exact (hU4.drew.trans hU5.no).set5 (g := b) (o0 := f * 5) (o1 := f * 5 + 1) (o2 := f * 5 + 2) (o3 := f * 5 + 3) (o4 := f * 5 + 4) (.inr rfl) _ _ _ _ _
        case measure => simp only [intOf]; rw [HJ1.out, Int.toNat_natCast, Int.toNat_natCast]; exact HMS.out
/-- What Drop answers, and what lies there behind it. -/
def DropPost (b : Nat) (room : Int) (M : List Ent) (k : Key) (w : World) (e : Ending) (w' : World) : Prop := e = .returned (gotV (lookK Prod.fst M k)) ∧ Upd (One b) w w' ∧ TabIs w' b room (delK Prod.fst M k)
theorem drop_calls (b : Nat) (room : Int) (M : List Ent) (k : Key) (w : World) (hT : TabIs w b room M) : Calls Try.prog 12 #[.pointer (some ⟨b, 0, none⟩), .agg #[.int .i64 k.1, .int .i64 k.2.1, .int .i64 k.2.2]] w (DropPost b room M k w) := by
  cases hl : lookK Prod.fst M k with
  | none => exact (drop_none b room M k w hT hl).mono fun e w' ⟨he, hU⟩ => ⟨by rw [hl]; exact he, hU.no, by rw [del_none hl]; exact hT.upd hU (fun h => h)⟩
  | some x =>
    obtain ⟨xk, n⟩ := x
    have hk := ((lookK_some hT.sorted).1 hl).2
    simp only at hk
    subst hk
    exact (drop_some b room M xk n w hT hl).mono fun e w' ⟨he, hU⟩ => ⟨by rw [hl]; exact he, hU⟩
end Go.Proofs.Ytoondlbagbgbmaa
