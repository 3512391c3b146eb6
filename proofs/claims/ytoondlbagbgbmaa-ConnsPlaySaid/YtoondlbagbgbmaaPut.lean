/- conns: Put. -/
import Derived.Test.YtoondlbagbgbmaaRows
import Derived.Test.YtoondlbagbgbmaaBase
import Derived.Test.YtoondlbagbgbmaaProbe
import Derived.Test.YtoondlbagbgbmaaSorted
import Derived.Test.YtoondlbagbgbmaaHome
import Derived.Test.YtoondlbagbgbmaaTab
import Derived.Test.YtoondlbagbgbmaaEq
import Derived.Test.YtoondlbagbgbmaaFind
import Derived.Test.YtoondlbagbgbmaaConns1
import Derived.Deep.RegionHeld3
import Derived.Deep.DrawnRows
import Derived.StillTailTactics
namespace Go.Proofs.Ytoondlbagbgbmaa
open Go.RowKit Go.Shelf Go.Proofs.Tab
attribute [local go_sem] Oper.semAt_some
attribute [local go_sem ↓] Go.wp_at_zero Go.wp_at_succ

theorem put_nil (k : Key) (n : Int) (w : World) : Calls Try.prog 9 #[.pointer none, .agg #[.int .i64 k.1, .int .i64 k.2.1, .int .i64 k.2.2], .int .i64 n] w fun e w' => e = .returned (.int .i64 9) ∧ Upd No w w' := by
  go_enter Try.func9, Try.ntmps9
  go_wp2
  go_ret
  exact ⟨rfl, (Upd.refl _ w).alloc _⟩
theorem put_wrong (b : Nat) (k : Key) (n : Int) (hk : rightB k = false) (w : World) : Calls Try.prog 9 #[.pointer (some ⟨b, 0, none⟩), .agg #[.int .i64 k.1, .int .i64 k.2.1, .int .i64 k.2.2], .int .i64 n] w fun e w' => e = .returned (.int .i64 1) ∧ Upd No w w' := by
  have hr : ∀ w, Calls Try.prog 23 #[.agg #[.int .i64 k.1, .int .i64 k.2.1, .int .i64 k.2.2]] w fun e w' => e = .returned (.bool false) ∧ Upd No w w' := fun w => by rw [← hk]; exact right_calls k w
  clear hk
  go_enter Try.func9, Try.ntmps9
  go_wp2_with (go_at_call 23; refine (hr _).mono ?_; rintro e w1 ⟨rfl, hU⟩)
  go_ret
  exact ⟨rfl, ((Upd.refl _ w).alloc _).trans hU⟩
set_option maxRecDepth 100000 in
set_option maxHeartbeats 1000000 in
theorem put_twice (b : Nat) (room : Int) (M : List Ent) (k : Key) (n : Int) (hk : rightB k = true) (x : Ent) (w : World) (hT : TabIs w b room M) (hl : lookK Prod.fst M k = some x) : Calls Try.prog 9 #[.pointer (some ⟨b, 0, none⟩), .agg #[.int .i64 k.1, .int .i64 k.2.1, .int .i64 k.2.2], .int .i64 n] w fun e w' => e = .returned (.int .i64 7) ∧ Upd No w w' := by
  have hr : ∀ w, Calls Try.prog 23 #[.agg #[.int .i64 k.1, .int .i64 k.2.1, .int .i64 k.2.2]] w fun e w' => e = .returned (.bool true) ∧ Upd No w w' := fun w => by rw [← hk]; exact right_calls k w
  obtain ⟨S, hT, hI, hM, hs, _, h1, h2⟩ := hT
  obtain ⟨o, ho, hfree⟩ := tab_free hI hM h1 h2
  have HT := Lib.hid hT
  have HF := Lib.hid hfree
  have KEY : Hid (∀ i, Seek homeOf S k i → S i = some (k, x.2)) := Lib.hid (fun i hf => by
    have hx := ((lookK_some hs).1 hl).2
    rw [seek_look hI hM hs hf, hl, ← hx])
  clear hT hfree hI hM hs h1 h2 hl hk
  go_enter Try.func9, Try.ntmps9
  go_wp2_with (first | (go_at_call 23; refine (hr _).mono ?_; rintro e w1 ⟨rfl, hU⟩; have hbx := cells_at (hU.at (block_new w _) (fun h => h)); have hb0 := hbx.1 0; have hb1 := hbx.1 1; have hb2 := hbx.1 2; clear hbx) | (go_at_call 25; refine (find_calls b S _ room k _ ((HT.out.alloc _).upd hU (fun h => h)) o ho HF.out).mono ?_; rintro e w2 ⟨i, rfl, hfd, hU2⟩; have hTW := ((HT.out.alloc _).upd hU (fun h => h)).upd hU2 (fun h => h); obtain ⟨hT0, hT1, hT2, hT3, hT4⟩ := hTW.atSome hfd.lt (KEY.out i hfd); have hi0 : (0 : Int) ≤ (i : Int) := Int.natCast_nonneg i; have hi1 : (i : Int) < 128 := Int.ofNat_lt.2 hfd.lt; clear hTW))
  go_ret
  exact ⟨rfl, (((Upd.refl _ w).alloc _).trans hU).trans hU2⟩
set_option maxRecDepth 100000 in
set_option maxHeartbeats 1000000 in
theorem put_full (b : Nat) (room : Int) (M : List Ent) (k : Key) (n : Int) (hk : rightB k = true) (w : World) (hT : TabIs w b room M) (hl : lookK Prod.fst M k = none) (hfull : room ≤ (M.length : Int)) : Calls Try.prog 9 #[.pointer (some ⟨b, 0, none⟩), .agg #[.int .i64 k.1, .int .i64 k.2.1, .int .i64 k.2.2], .int .i64 n] w fun e w' => e = .returned (.int .i64 9) ∧ Upd No w w' := by
  have hr : ∀ w, Calls Try.prog 23 #[.agg #[.int .i64 k.1, .int .i64 k.2.1, .int .i64 k.2.2]] w fun e w' => e = .returned (.bool true) ∧ Upd No w w' := fun w => by rw [← hk]; exact right_calls k w
  obtain ⟨S, hT, hI, hM, hs, _, h1, h2⟩ := hT
  obtain ⟨o, ho, hfree⟩ := tab_free hI hM h1 h2
  have HT := Lib.hid hT
  have HF := Lib.hid hfree
  have KEY : Hid (∀ i, Seek homeOf S k i → S i = none) := Lib.hid (fun i hf => by
    rw [seek_look hI hM hs hf, hl])
  clear hT hfree hI hM hs h1 h2 hl hk
  go_enter Try.func9, Try.ntmps9
  go_wp2_with (first | (go_at_call 23; refine (hr _).mono ?_; rintro e w1 ⟨rfl, hU⟩; have hbx := cells_at (hU.at (block_new w _) (fun h => h)); have hb0 := hbx.1 0; have hb1 := hbx.1 1; have hb2 := hbx.1 2; clear hbx) | (go_at_call 25; refine (find_calls b S _ room k _ ((HT.out.alloc _).upd hU (fun h => h)) o ho HF.out).mono ?_; rintro e w2 ⟨i, rfl, hfd, hU2⟩; have hTW := ((HT.out.alloc _).upd hU (fun h => h)).upd hU2 (fun h => h); obtain ⟨hT0, hT1, hT2, hT3, hT4⟩ := hTW.atNone hfd.lt (KEY.out i hfd); have hi0 : (0 : Int) ≤ (i : Int) := Int.natCast_nonneg i; have hi1 : (i : Int) < 128 := Int.ofNat_lt.2 hfd.lt; have hT5 := hTW.len; have hT6 := hTW.room; clear hTW))
  go_quiet (fail)
  go_wp2
  go_ret
  exact ⟨rfl, ((((Upd.refl _ w).alloc _).trans hU).trans hU2).drewN _⟩
def PutIn (b : Nat) (room : Int) (M : List Ent) (w : World) (e : Ending) (w' : World) : Prop := e = .returned (.int .i64 0) ∧ Upd (One b) w w' ∧ TabIs w' b room M
set_option maxRecDepth 100000 in
set_option maxHeartbeats 1000000 in
theorem put_ok (b : Nat) (room : Int) (M : List Ent) (k : Key) (n : Int) (hk : rightB k = true) (w : World) (hT : TabIs w b room M) (hl : lookK Prod.fst M k = none) (hfull : (M.length : Int) < room) : Calls Try.prog 9 #[.pointer (some ⟨b, 0, none⟩), .agg #[.int .i64 k.1, .int .i64 k.2.1, .int .i64 k.2.2], .int .i64 n] w (PutIn b room (insK Prod.fst (k, n) M) w) := by
  have hr : ∀ w, Calls Try.prog 23 #[.agg #[.int .i64 k.1, .int .i64 k.2.1, .int .i64 k.2.2]] w fun e w' => e = .returned (.bool true) ∧ Upd No w w' := fun w => by rw [← hk]; exact right_calls k w
  obtain ⟨S, hT, hI, hM, hs, hR, h1, h2⟩ := hT
  obtain ⟨o, ho, hfree⟩ := tab_free hI hM h1 h2
  have HT := Lib.hid hT
  have HF := Lib.hid hfree
  have KEY : Hid (∀ i, Seek homeOf S k i → S i = none) := Lib.hid (fun i hf => by
    rw [seek_look hI hM hs hf, hl])
  have HR := Lib.hid hR
  have HK := Lib.hid hk
  have HI := Lib.hid hI
  have HM := Lib.hid hM
  have HS := Lib.hid hs
  have HL := Lib.hid hl
  clear hT hfree hI hM hs hl hk hR
  go_enter Try.func9, Try.ntmps9
  go_wp2_with (first | (go_at_call 23; refine (hr _).mono ?_; rintro e w1 ⟨rfl, hU⟩; have hbx := cells_at (hU.at (block_new w _) (fun h => h)); have hb0 := hbx.1 0; have hb1 := hbx.1 1; have hb2 := hbx.1 2; clear hbx) | (go_at_call 25; refine (find_calls b S _ room k _ ((HT.out.alloc _).upd hU (fun h => h)) o ho HF.out).mono ?_; rintro e w2 ⟨i, rfl, hfd, hU2⟩; have hTW := ((HT.out.alloc _).upd hU (fun h => h)).upd hU2 (fun h => h); obtain ⟨hT0, hT1, hT2, hT3, hT4⟩ := hTW.atNone hfd.lt (KEY.out i hfd); have hi0 : (0 : Int) ≤ (i : Int) := Int.natCast_nonneg i; have hi1 : (i : Int) < 128 := Int.ofNat_lt.2 hfd.lt; have hT5 := hTW.len; have hT6 := hTW.room; have hTf := hTW.free; have HTW := Lib.hid hTW; have hbx := cells_at (hU2.at (hU.at (block_new w _) (fun h => h)) (fun h => h)); have hc0 := hbx.1 0; have hc1 := hbx.1 1; have hc2 := hbx.1 2; clear hbx hTW))
  go_quiet (fail)
  go_wp2
  generalize hw3 : w2.drewN nq = w3
  have hTW3 : TabAt w3 b S M.length room := by rw [← hw3]; exact HTW.out
  obtain ⟨hd0, hd1, hd2, hd3, hd4⟩ := hTW3.atNone hfd.lt (KEY.out i hfd)
  have he0 : w3.cell? ⟨w.heap.size, 0, none⟩ = some (.int .i64 k.1) := by rw [← hw3]; exact hc0
  have he1 : w3.cell? ⟨w.heap.size, 1, none⟩ = some (.int .i64 k.2.1) := by rw [← hw3]; exact hc1
  have he2 : w3.cell? ⟨w.heap.size, 2, none⟩ = some (.int .i64 k.2.2) := by rw [← hw3]; exact hc2
  have hTf3 := hTW3.free
  have hUW : Upd No w w3 := by rw [← hw3]; exact ((((Upd.refl _ w).alloc _).trans hU).trans hU2).drewN _
  have HTW3 := Lib.hid hTW3
  have hd5 := hTW3.len
  clear hw3 hT0 hT1 hT2 hT3 hT4 hT5 hT6 hTf hc0 hc1 hc2 HTW hTW3
  go_region
  have hT4 := HTW3.out.set5 hfd.lt (some (k, n)) (v0 := .int .i64 k.1) (v1 := .int .i64 k.2.1) (v2 := .int .i64 k.2.2) (v3 := .int .i64 n) (v4 := .bool true) rfl
  have hU4 : Upd (One b) w _ := ((hUW.mono (T := One b) (fun _ _ h => h.elim)).set5 (g := b) (o0 := i * 5) (o1 := i * 5 + 1) (o2 := i * 5 + 2) (o3 := i * 5 + 3) (o4 := i * 5 + 4) (.inr rfl) (.int .i64 k.1) (.int .i64 k.2.1) (.int .i64 k.2.2) (.int .i64 n) (.bool true))
  generalize hw4 : ((((w3.setCell ⟨b, i * 5, none⟩ (.int .i64 k.1)).setCell ⟨b, i * 5 + 1, none⟩ (.int .i64 k.2.1)).setCell ⟨b, i * 5 + 2, none⟩ (.int .i64 k.2.2)).setCell ⟨b, i * 5 + 3, none⟩ (.int .i64 n)).setCell ⟨b, i * 5 + 4, none⟩ (.bool true) = w4 at *
  have HT4 := Lib.hid hT4
  have hl4 := hT4.len
  have hf4 := hT4.free
  clear hw4 hT4 hd0 hd1 hd2 hd3 hd4 hd5 he0 he1 he2 hTf3
  go_wp2
  go_ret
  refine ⟨rfl, (hU4.drew.setCell (p := ⟨b, 640, none⟩) (.inr rfl) _), put S i (some (k, n)), ?_, ?_⟩
  · have hz : ((insK Prod.fst (k, n) M).length : Int) = (M.length : Int) + 1 := by rw [length_ins]; omega
    rw [hz]
    exact HT4.out.drew.setLen _
  · have hno := lookK_none.1 HL.out
    have h0 := KEY.out i hfd
    refine ⟨put_inv HI.out hfd h0 (fun j m hj he => hno _ ((HM.out _).2 ⟨j, hj, he⟩) rfl), fun e => ?_, sorted_ins HS.out hno, fun e he => ?_, by rw [length_ins]; omega, h2⟩
    · rw [mem_ins, holds_put hfd.lt h0, HM.out e]
    · rcases (mem_ins _ _ _).1 he with rfl | he
      · exact HK.out
      · exact HR.out e he
/-- What Put answers, and what lies there behind it. -/
def putOf (room : Int) (M : List Ent) (k : Key) (n : Int) : Int × List Ent :=
  if rightB k = false then (1, M) else if (lookK Prod.fst M k).isSome then (7, M) else if room ≤ (M.length : Int) then (9, M) else (0, insK Prod.fst (k, n) M)
def PutPost (b : Nat) (room : Int) (r : Int × List Ent) (w : World) (e : Ending) (w' : World) : Prop := e = .returned (.int .i64 r.1) ∧ Upd (One b) w w' ∧ TabIs w' b room r.2
theorem TabIs.not_one {w : World} {b : Nat} {room : Int} {M : List Ent} (h : TabIs w b room M) {w' : World} (hU : Upd No w w') : Upd (One b) w w' ∧ TabIs w' b room M := ⟨hU.no, h.upd hU (fun h => h)⟩
theorem put_calls (b : Nat) (room : Int) (M : List Ent) (k : Key) (n : Int) (w : World) (hT : TabIs w b room M) : Calls Try.prog 9 #[.pointer (some ⟨b, 0, none⟩), .agg #[.int .i64 k.1, .int .i64 k.2.1, .int .i64 k.2.2], .int .i64 n] w (PutPost b room (putOf room M k n) w) := by
  unfold putOf
  by_cases hk : rightB k = false
  · rw [if_pos hk]
    exact (put_wrong b k n hk w).mono fun e w' ⟨he, hU⟩ => ⟨he, hT.not_one hU⟩
  · rw [if_neg hk]
    have hk' : rightB k = true := by simpa using hk
    cases hl : lookK Prod.fst M k with
    | some x =>
      rw [if_pos (by simp)]
      exact (put_twice b room M k n hk' x w hT hl).mono fun e w' ⟨he, hU⟩ => ⟨he, hT.not_one hU⟩
    | none =>
      rw [if_neg (by simp)]
      by_cases hfull : room ≤ (M.length : Int)
      · rw [if_pos hfull]
        exact (put_full b room M k n hk' w hT hl hfull).mono fun e w' ⟨he, hU⟩ => ⟨he, hT.not_one hU⟩
      · rw [if_neg hfull]
        exact put_ok b room M k n hk' w hT hl (by omega)
theorem ins_last {e : Ent} {M : List Ent} (h : ∀ x, x ∈ M → before x.1 e.1 = true) : insK Prod.fst e M = M ++ [e] := by
  induction M with
  | nil => rfl
  | cons a M ih =>
    rw [insK, if_pos (h a (by simp)), ih (fun x hx => h x (by simp [hx]))]
    rfl
theorem putOf_last {room : Int} {M : List Ent} {k : Key} {n : Int} (hr : rightB k = true) (h : ∀ x, x ∈ M → before x.1 k = true) (hl : (M.length : Int) < room) : putOf room M k n = (0, M ++ [(k, n)]) := by
  unfold putOf
  have hl2 : lookK Prod.fst M k = none := lookK_none.2 (fun x hx hk => by have := h x hx; rw [hk, before_irrefl] at this; cases this)
  rw [if_neg (by rw [hr]; simp), hl2, if_neg (by simp), if_neg (by omega), ins_last h]
end Go.Proofs.Ytoondlbagbgbmaa
