/- trunklineref09, the document's answer: Drop. -/
import Derived.Test.YtoondlbagbgbmaaRows
import Derived.Test.YtoondlbagbgbmaaBase
import Derived.Test.YtoondlbagbgbmaaProbe
import Derived.Test.YtoondlbagbgbmaaSorted
import Derived.Test.YtoondlbagbgbmaaTab
import Derived.Test.YtoondlbagbgbmaaEq
import Derived.Test.YtoondlbagbgbmaaConns1
import Derived.Test.YtoondlbagbgbmaaGet
import Derived.Test.YtoondlbagbgbmaaOps
import Derived.Test.YtoondlbagbgbmaaSliceK
import Derived.Test.YtoondlbagbgbmaaLaw9
import Derived.Test.YtoondlbagbgbmaaRef9
import Derived.Test.YtoondlbagbgbmaaRefPut9
import Derived.Deep.RegionLaw
namespace Go.Proofs.Ytoondlbagbgbmaa
open Go.RowKit Go.Shelf Go.Proofs.Tab
attribute [local go_sem] Oper.semAt_some

theorem del_at {M : List Ent} (hs : Sorted Prod.fst M) {k : Key} {i : Nat} {x : Ent} (hx : M[i]? = some x) (hk : x.1 = k) : delK Prod.fst M k = M.take i ++ M.drop (i + 1) := by
  have hM : M = M.take i ++ x :: M.drop (i + 1) := by
    obtain ⟨h1, h2⟩ := List.getElem?_eq_some_iff.1 hx
    rw [← h2, ← List.drop_eq_getElem_cons h1, List.take_append_drop]
  rw [hM] at hs
  unfold Sorted at hs
  rw [List.pairwise_append] at hs
  obtain ⟨_, h2, h3⟩ := hs
  have h4 := (List.pairwise_cons.1 h2).1
  have e1 : (M.take i).filter (fun e => !decide (e.1 = k)) = M.take i := List.filter_eq_self.2 (fun y hy => by
    have := before_ne (h3 y hy x (by simp)); rw [hk] at this; simpa using this)
  have e2 : (M.drop (i + 1)).filter (fun e => !decide (e.1 = k)) = M.drop (i + 1) := List.filter_eq_self.2 (fun y hy => by
    have := (before_ne (h4 y hy)).symm; rw [hk] at this; simpa using this)
  unfold delK
  conv => lhs; rw [hM]
  rw [List.filter_append, List.filter_cons, if_neg (by simp [hk]), e1, e2]
/-- Drop's answer, the table as the document keeps it. -/
def RDrop (g : Nat) (room : Int) (M : List Ent) (k : Key) (w : World) (e : Ending) (w' : World) : Prop := e = .returned (gotV (lookK Prod.fst M k)) ∧ Upd (One g) w w' ∧ RefIs w' g room (delK Prod.fst M k)
theorem RDrop.of {g : Nat} {room : Int} {M : List Ent} {k : Key} {w w' : World} {o : Option Ent} {M' : List Ent} (h1 : lookK Prod.fst M k = o) (h0 : delK Prod.fst M k = M') (h2 : Upd (One g) w w') (h3 : RefIs w' g room M') : RDrop g room M k w (.returned (gotV o)) w' := by subst h1 h0; exact ⟨rfl, h2, h3⟩
set_option maxRecDepth 100000 in
set_option maxHeartbeats 1000000 in
set_option maxHeartbeats 4000000 in
theorem refDrop_calls (g : Nat) (room : Int) (M : List Ent) (k : Key) (w : World) (h : RefIs w g room M) (hl : M.length ≤ 1000) (hsrt : Sorted Prod.fst M) : Calls Try.prog 18 #[.pointer (some ⟨g, 0, none⟩), .agg #[.int .i64 k.1, .int .i64 k.2.1, .int .i64 k.2.2]] w (RDrop g room M k w) := by
  have H := Lib.hid h
  have hgw := h.lt
  have HSO := Lib.hid hsrt
  clear h hsrt
  go_enter Try.func18, Try.ntmps18
  go_wp2_with fail
  have hU0 := ((Upd.refl No w).alloc (.cells #[.int .i64 k.1, .int .i64 k.2.1, .int .i64 k.2.2] 29))
  refine (at_calls g room M k _ (H.out.no hU0) (by omega)).mono ?_
  rintro e w1 ⟨⟨r, rfl, hr⟩, hU1⟩
  have hU := hU0.trans hU1
  have H1 := Lib.hid (H.out.no hU)
  clear hU0 hU1
  rcases hr with ⟨rfl, hn⟩ | ⟨i, x, rfl, hx, hk, hs, _⟩
  · have HN := Lib.hid hn
    clear hn
    go_wp2_with fail
    go_ret2
    exact RDrop.of (o := none) HN.out (del_none HN.out) hU.no H1.out
  · have HK := Lib.hid hk
    have HX := Lib.hid hx
    have HLK := Lib.hid hs
    obtain ⟨v, hb, ho⟩ := H1.out
    obtain ⟨b, off, c0, rfl, hc1, hm1, hb1, r1⟩ := (ho.sl entEnc).known entEnc hx
    have z0 := (cells_at hb).1 0
    have x3 := (r1 3 (by omega)).trans (show (entE x)[3]? = some (.int .i64 x.2) from rfl)
    have hk0 : (0 : Int) ≤ (i : Int) := by omega
    have hi : i < M.length := (List.getElem?_eq_some_iff.1 hx).1
    have hk1 : (i : Int) < (M.length : Int) := by omega
    have hmi : c0 ≤ 9223372036854775807 := by unfold maxLen at hm1; omega
    have HO := Lib.hid ho
    have HB := Lib.hid hb
    clear hs hx hk r1 hb ho hm1
    have CE4 : Hid (∀ W', Upd No w1 W' → W'.cell? ⟨g, 0, none⟩ = some (.slice (some ⟨b, off, none⟩) M.length c0) ∧ W'.frozen? ⟨g, 0, none⟩ = false) := Lib.hid fun W' h => by
      have q := cells_at (h.at HB.out (fun h => h))
      exact ⟨q.1 0, q.2 0⟩
    have HS1 : Hid (∀ W', Upd No w1 W' → SlK entE W' (.slice (some ⟨b, off, none⟩) i c0) (M.take i)) := Lib.hid fun W' h => by simpa using ((HO.out.sl entEnc).no h).sub entEnc 0 i (Nat.zero_le _) (by omega)
    have hUd : Upd No w1 w1.drew := (Upd.refl No w1).drew
    have hs1 : (i : Int) ≤ (M.length : Int) := by omega
    have hs2 : (i : Int) ≤ (c0 : Int) := by omega
    have hs3 : i ≤ c0 := by omega
    have hs6 : i + 1 ≤ M.length := by omega
    have hs7 : (i : Int) + 1 ≤ (M.length : Int) := by omega
    have hw1 : IntKind.i64.wrap ((i : Int) + 1) = (i : Int) + 1 := IntWalk.i64_in _ (by omega)
    have hnn : ((i : Int) + 1).toNat = i + 1 := by omega
    have hp1 : (0 : Int) ≤ (i : Int) + 1 := by omega
    by_cases hnc : i + 1 = c0
    · obtain rfl : c0 = i + 1 := hnc.symm
      have hml : M.length = i + 1 := by omega
      have hle1 : (i : Int) ≤ (i : Int) + 1 := by omega
      have HS2 : Hid (∀ W', Upd No w1 W' → SlK entE W' (.slice (some ⟨b, off, none⟩) 0 0) (M.drop (i + 1))) := Lib.hid fun W' h => by
        have := ((HO.out.sl entEnc).no h).left off
        rw [List.drop_eq_nil_of_le (by omega)]
        exact this
      clear hml
      go_wp2_with (with_reducible refine stop_dst 40 ?_)
      have zA : (w1.alloc (.cells #[] 66)).cell? ⟨g, 0, none⟩ = some (.slice (some ⟨b, off, none⟩) M.length (i + 1)) := (CE4.out _ ((Upd.refl No w1).alloc _)).1
      go_region_law (first
        | (refine step_app_k entT entEnc rfl (.tmp 22) (.tmp 28) rfl w1.heap.size (.slice (some ⟨w1.drew.heap.size, 0, none⟩) 0 0) (.slice (some ⟨b, off, none⟩) i (i + 1)) [] (M.take i) rfl rfl (OwnK.made entEnc (l := []) (block_new w1.drew _) hUd.size (Nat.zero_le _)) (HS1.out _ (hUd.alloc _)) (by simp; omega) (hUd.alloc _).size ?_; intro v5 w5 ho5 hg5; have hU5 : Upd No w1 w5 := (OwnK.made (enc := entE) (E := 66) (base := w1.heap.size) entEnc (l := []) (block_new w1.drew _) hUd.size (Nat.zero_le _)).grown (hUd.alloc _) hg5 (Nat.le_refl _); have y5 := (CE4.out _ hU5).1)
        | (refine step_app_k entT entEnc rfl (.tmp 29) (.tmp 36) rfl w1.heap.size v5 (.slice (some ⟨b, off, none⟩) 0 0) (M.take i) (M.drop (i + 1)) rfl rfl (by simpa using ho5) (HS2.out _ hU5) (by simp; omega) hU5.size ?_; intro v6 w6 ho6 hg6; have hU6 : Upd No w1 w6 := ho5.grown hU5 hg6 (Nat.le_refl _); obtain ⟨a6, n6, c6, rfl⟩ := ho6.slice; have y6 := (CE4.out _ hU6).1; have y7 := (CE4.out _ hU6).2))
      all_goals
        have HO6 := Lib.hid ho6
        have HU6 := Lib.hid hU6
        clear ho5 ho6 hg5 hg6 hU5 hU6 CE4 HS1 HS2 hUd
        go_wp2_with fail
        go_ret2
        refine RDrop.of (o := some x) HLK.out (del_at HSO.out HX.out HK.out) (((hU.trans HU6.out).no : Upd (One g) w w6).setCell (S := One g) (p := ⟨g, 0, none⟩) (.inr rfl) _) ⟨_, block_set (HU6.out.at HB.out (fun h => h)) _, ?_⟩
        have hlt1 : g + 1 ≤ w1.heap.size := heap_lt HB.out
        exact (HO6.out.keep ((Upd.refl (One g) w6).setCell (p := ⟨g, 0, none⟩) (.inr rfl) (.slice a6 n6 c6)) (fun j hj e => by have h1 := (HO6.out.ge j hj).1; rw [show j = g from e] at h1; omega)).mono hlt1
    · have hs4 : i + 1 < c0 := by omega
      have hs5 : (i : Int) + 1 < (c0 : Int) := by omega
      have hne : ¬ c0 = i + 1 := by omega
      have hs8 : i < c0 := by omega
      have hs9 : (i : Int) < (c0 : Int) := by omega
      have HS2 : Hid (∀ W', Upd No w1 W' → SlK entE W' (.slice (some ⟨b, off + (i + 1) * 4, none⟩) (M.length - (i + 1)) (c0 - (i + 1))) (M.drop (i + 1))) := Lib.hid fun W' h => by
        have := ((HO.out.sl entEnc).no h).sub entEnc (i + 1) M.length (by omega) (by omega)
        rw [List.take_length] at this
        exact this
      go_wp2_with (with_reducible refine stop_dst 40 ?_)
      have zA : (w1.alloc (.cells #[] 66)).cell? ⟨g, 0, none⟩ = some (.slice (some ⟨b, off, none⟩) M.length c0) := (CE4.out _ ((Upd.refl No w1).alloc _)).1
      go_region_law (first
        | (refine step_app_k entT entEnc rfl (.tmp 22) (.tmp 28) rfl w1.heap.size (.slice (some ⟨w1.drew.heap.size, 0, none⟩) 0 0) (.slice (some ⟨b, off, none⟩) i c0) [] (M.take i) rfl rfl (OwnK.made entEnc (l := []) (block_new w1.drew _) hUd.size (Nat.zero_le _)) (HS1.out _ (hUd.alloc _)) (by simp; omega) (hUd.alloc _).size ?_; intro v5 w5 ho5 hg5; have hU5 : Upd No w1 w5 := (OwnK.made (enc := entE) (E := 66) (base := w1.heap.size) entEnc (l := []) (block_new w1.drew _) hUd.size (Nat.zero_le _)).grown (hUd.alloc _) hg5 (Nat.le_refl _); have y5 := (CE4.out _ hU5).1)
        | (refine step_app_k entT entEnc rfl (.tmp 29) (.tmp 36) rfl w1.heap.size v5 (.slice (some ⟨b, off + (i + 1) * 4, none⟩) (M.length - (i + 1)) (c0 - (i + 1))) (M.take i) (M.drop (i + 1)) rfl rfl (by simpa using ho5) (HS2.out _ hU5) (by simp; omega) hU5.size ?_; intro v6 w6 ho6 hg6; have hU6 : Upd No w1 w6 := ho5.grown hU5 hg6 (Nat.le_refl _); obtain ⟨a6, n6, c6, rfl⟩ := ho6.slice; have y6 := (CE4.out _ hU6).1; have y7 := (CE4.out _ hU6).2))
      all_goals
        have HO6 := Lib.hid ho6
        have HU6 := Lib.hid hU6
        clear ho5 ho6 hg5 hg6 hU5 hU6 CE4 HS1 HS2 hUd
        go_wp2_with fail
        go_ret2
        refine RDrop.of (o := some x) HLK.out (del_at HSO.out HX.out HK.out) (((hU.trans HU6.out).no : Upd (One g) w w6).setCell (S := One g) (p := ⟨g, 0, none⟩) (.inr rfl) _) ⟨_, block_set (HU6.out.at HB.out (fun h => h)) _, ?_⟩
        have hlt1 : g + 1 ≤ w1.heap.size := heap_lt HB.out
        exact (HO6.out.keep ((Upd.refl (One g) w6).setCell (p := ⟨g, 0, none⟩) (.inr rfl) (.slice a6 n6 c6)) (fun j hj e => by have h1 := (HO6.out.ge j hj).1; rw [show j = g from e] at h1; omega)).mono hlt1
end Go.Proofs.Ytoondlbagbgbmaa
