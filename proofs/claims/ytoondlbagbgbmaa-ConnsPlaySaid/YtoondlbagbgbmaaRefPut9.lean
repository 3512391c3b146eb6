/- trunklineref09, the document's answer: Put. -/
import Derived.Test.YtoondlbagbgbmaaRows
import Derived.Test.YtoondlbagbgbmaaBase
import Derived.Test.YtoondlbagbgbmaaProbe
import Derived.Test.YtoondlbagbgbmaaSorted
import Derived.Test.YtoondlbagbgbmaaTab
import Derived.Test.YtoondlbagbgbmaaEq
import Derived.Test.YtoondlbagbgbmaaConns1
import Derived.Test.YtoondlbagbgbmaaPut
import Derived.Test.YtoondlbagbgbmaaOps
import Derived.Test.YtoondlbagbgbmaaSliceK
import Derived.Test.YtoondlbagbgbmaaLaw9
import Derived.Test.YtoondlbagbgbmaaRef9
import Derived.Deep.RegionHeldLaw
namespace Go.Proofs.Ytoondlbagbgbmaa
open Go.RowKit Go.Shelf Go.Proofs.Tab
attribute [local go_sem] Oper.semAt_some

theorem ins_at {M : List Ent} {e : Ent} : ∀ (n : Nat), (∀ y, y ∈ M.take n → before y.1 e.1 = true) → (∀ x, M[n]? = some x → before x.1 e.1 = false) → insK Prod.fst e M = M.take n ++ e :: M.drop n := by
  induction M with
  | nil => intro n _ _; simp [insK]
  | cons a M ih =>
    intro n h1 h2
    cases n with
    | zero =>
      have := h2 a rfl
      simp [insK, this]
    | succ n =>
      have h3 := h1 a (by simp)
      have := ih n (fun y hy => h1 y (by simp [hy])) (fun x hx => h2 x (by simpa using hx))
      simp [insK, h3, this]
theorem OwnK.form2 {α : Type} {enc : α → List Value} {k : Nat} {E : TypeId} {w : World} {base : Nat} {v : Value} {l : List α} (h : OwnK enc E k w base v l) : (v = .slice none 0 0 ∧ l = []) ∨ ∃ g off cap, v = .slice (some ⟨g, off, none⟩) l.length cap := by
  rcases h.form with h | ⟨g, cap, h, _⟩
  · exact .inl h
  · exact .inr ⟨g, 0, cap, h⟩
theorem SlK.left {α : Type} {enc : α → List Value} {w : World} {b off n c : Nat} {l : List α} (h : SlK enc w (.slice (some ⟨b, off, none⟩) n c) l) (o : Nat) : SlK enc w (.slice (some ⟨b, o, none⟩) 0 0) ([] : List α) :=
  .inr ⟨b, o, 0, rfl, Nat.zero_le _, Nat.zero_le _, h.lt b rfl, fun j u hj => by simp at hj⟩
/-- Put's answer, the table as the document keeps it. -/
def RPut (g : Nat) (room : Int) (r : Int × List Ent) (w : World) (e : Ending) (w' : World) : Prop := e = .returned (.int .i64 r.1) ∧ Upd (One g) w w' ∧ RefIs w' g room r.2
theorem RPut.of {g : Nat} {room : Int} {R : Int × List Ent} {w w' : World} {c : Int} {M' : List Ent} (hR : R = (c, M')) (h2 : Upd (One g) w w') (h3 : RefIs w' g room M') : RPut g room R w (.returned (.int .i64 c)) w' := by subst hR; exact ⟨rfl, h2, h3⟩
set_option maxRecDepth 100000 in
set_option maxHeartbeats 1000000 in
set_option maxHeartbeats 4000000 in
theorem refPut_calls (g : Nat) (room : Int) (M : List Ent) (k : Key) (nv : Int) (w : World) (h : RefIs w g room M) (hl : M.length ≤ 1000) : Calls Try.prog 17 #[.pointer (some ⟨g, 0, none⟩), .agg #[.int .i64 k.1, .int .i64 k.2.1, .int .i64 k.2.2], .int .i64 nv] w (RPut g room (putOf room M k nv) w) := by
  have H := Lib.hid h
  have hgw := h.lt
  clear h
  obtain ⟨R, hR⟩ : ∃ R, R = putOf room M k nv := ⟨_, rfl⟩
  rw [← hR]
  have HR := Lib.hid hR
  clear hR
  go_enter Try.func17, Try.ntmps17
  obtain ⟨B, hB⟩ : ∃ B, B = w.heap.size := ⟨_, rfl⟩
  have hbx : (w.alloc (.cells #[.int .i64 k.1, .int .i64 k.2.1, .int .i64 k.2.2] 29)).heap[B]? = some (.cells #[.int .i64 k.1, .int .i64 k.2.1, .int .i64 k.2.2] 29 (0, 0)) := by rw [hB]; exact block_new w _
  have hU0 := ((Upd.refl No w).alloc (.cells #[.int .i64 k.1, .int .i64 k.2.1, .int .i64 k.2.2] 29))
  have HB := Lib.hid hB
  go_wp2_with fail
  refine (refRight_calls k _).mono ?_
  rintro e w1 ⟨rfl, hU1⟩
  rw [← hB]
  have hU := hU0.trans hU1
  have hbx1 := hU1.at hbx (fun h => h)
  clear hbx hU0 hU1 hB
  cases hright : rightB k with
  | false =>
    have HR1 := Lib.hid (show R = (1, M) by rw [HR.out]; unfold putOf; rw [if_pos hright])
    clear hright
    go_wp2_with fail
    go_ret
    exact RPut.of HR1.out hU.no (H.out.no hU)
  | true =>
    have HR1 := Lib.hid (show R = if (lookK Prod.fst M k).isSome then (7, M) else if room ≤ (M.length : Int) then (9, M) else (0, insK Prod.fst (k, nv) M) by rw [HR.out]; unfold putOf; rw [if_neg (by rw [hright]; simp)])
    clear hright
    have q0 := (cells_at hbx1).1 0
    have q1 := (cells_at hbx1).1 1
    have q2 := (cells_at hbx1).1 2
    go_wp2_with fail
    refine (at_calls g room M k _ (H.out.no hU) (by omega)).mono ?_
    rintro e w2 ⟨⟨r, rfl, hr⟩, hU2⟩
    have hal := at_look hr
    have hbx2 := hU2.at hbx1 (fun h => h)
    have hU' := hU.trans hU2
    clear hU hU2 hbx1 q0 q1 q2 hr
    by_cases h0 : 0 ≤ r
    · have HR2 := Lib.hid (show R = (7, M) by rw [HR1.out, if_pos (by rw [hal]; simpa using h0)])
      clear hal
      go_wp2_with fail
      go_ret
      exact RPut.of HR2.out hU'.no (H.out.no hU')
    · have HR2 := Lib.hid (show R = if room ≤ (M.length : Int) then (9, M) else (0, insK Prod.fst (k, nv) M) by rw [HR1.out, if_neg (by rw [hal]; simpa using h0)])
      clear hal
      obtain ⟨v, hb, ho⟩ := H.out.no hU'
      have z0 := (cells_at hb).1 0
      have z1 := (cells_at hb).1 1
      obtain ⟨a0, c0, rfl, hc1, hm1, _, _⟩ := (ho.sl entEnc).shape
      by_cases hrm : room ≤ (M.length : Int)
      · have HR3 := Lib.hid (show R = (9, M) by rw [HR2.out, if_pos hrm])
        clear hb ho hm1
        go_wp2_with fail
        go_quiet (fail)
        go_wp2_with fail
        go_ret
        exact RPut.of HR3.out (hU'.drewN _).no (H.out.no (hU'.drewN _))
      · have HR3 := Lib.hid (show R = (0, insK Prod.fst (k, nv) M) by rw [HR2.out, if_neg hrm])
        have HO := Lib.hid ho
        have HBK := Lib.hid hb
        have hm2 : c0 ≤ 9223372036854775807 := by unfold maxLen at hm1; omega
        clear hb ho hm1
        go_wp2_with fail
        go_quiet (fail)
        have hU3 := hU'.drewN nq
        have hbx3 : (w2.drewN nq).heap[B]? = some (.cells #[.int .i64 k.1, .int .i64 k.2.1, .int .i64 k.2.2] 29 (0, 0)) := hbx2
        have HO3 := Lib.hid (HO.out.keep ((Upd.refl No w2).drewN nq) (fun _ _ h => h))
        have HG3 := Lib.hid (show (w2.drewN nq).heap[g]? = some (.cells #[.slice a0 M.length c0, .int .i64 room] 49 (0, 0)) from HBK.out)
        clear hU' hbx2 z0 z1 HO HBK
        generalize w2.drewN nq = w3 at *
        have CE : Hid (∀ W', Upd No w3 W' → W'.cell? ⟨g, 0, none⟩ = some (.slice a0 M.length c0) ∧ W'.cell? ⟨B, 0, none⟩ = some (.int .i64 k.1) ∧ W'.cell? ⟨B, 1, none⟩ = some (.int .i64 k.2.1) ∧ W'.cell? ⟨B, 2, none⟩ = some (.int .i64 k.2.2)) := Lib.hid fun W' h => by
          have q1 := (cells_at (h.at HG3.out (fun h => h))).1
          have q2 := (cells_at (h.at hbx3 (fun h => h))).1
          exact ⟨q1 0, q2 0, q2 1, q2 2⟩
        have HBX3 := Lib.hid hbx3
        clear hbx3
        go_wp2_with fail
        go_loopw [7] (fun i wr => ∃ n : Nat, n ≤ M.length ∧ i = .int .i64 (n : Int) ∧ (∀ y, y ∈ M.take n → before y.1 k = true) ∧ Upd No w3 wr) (fun i _ => M.length - (intOf i).toNat)
        case atStart => exact ⟨0, Nat.zero_le _, rfl, by simp, Upd.refl _ _⟩
        case round =>
          obtain ⟨n, hn, rfl, hbe, hU⟩ := hrel
          have HBE := Lib.hid hbe
          clear hbe
          have c0' : ∀ X : Later wr, X.w.cell? ⟨g, 0, none⟩ = some (.slice a0 M.length c0) := fun X => (CE.out _ (hU.trans X.u)).1
          have hk0 : (0 : Int) ≤ (n : Int) := by omega
          by_cases hlt : n < M.length
          · obtain ⟨x, hx⟩ : ∃ x, M[n]? = some x := ⟨_, List.getElem?_eq_getElem hlt⟩
            obtain ⟨b, off, cap, hv, _, _, _, r1⟩ := (HO3.out.sl entEnc).known entEnc hx
            simp only [Value.slice.injEq, true_and] at hv
            obtain ⟨rfl, rfl⟩ := hv
            have hk1 : (n : Int) < (M.length : Int) := by omega
            have d0 : ∀ X : Later wr, ∀ j, j < 4 → X.w.cell? ⟨b, off + n * 4 + j, none⟩ = (entE x)[j]? := fun X j hj => by
              have hc := r1 j hj
              obtain ⟨v, hv⟩ : ∃ v, (entE x)[j]? = some v := ⟨_, List.getElem?_eq_getElem (by exact hj)⟩
              rw [hv] at hc ⊢
              exact (hU.trans X.u).cell hc (fun h => h)
            have x0 : ∀ X : Later wr, X.w.cell? ⟨b, off + n * 4, none⟩ = some (.int .i64 x.1.1) := fun X => d0 X 0 (by omega)
            have x1 : ∀ X : Later wr, X.w.cell? ⟨b, off + n * 4 + 1, none⟩ = some (.int .i64 x.1.2.1) := fun X => d0 X 1 (by omega)
            have x2 : ∀ X : Later wr, X.w.cell? ⟨b, off + n * 4 + 2, none⟩ = some (.int .i64 x.1.2.2) := fun X => d0 X 2 (by omega)
            have r0 : ∀ X : Later wr, X.w.cell? ⟨B, 0, none⟩ = some (.int .i64 k.1) := fun X => (CE.out _ (hU.trans X.u)).2.1
            have r1' : ∀ X : Later wr, X.w.cell? ⟨B, 1, none⟩ = some (.int .i64 k.2.1) := fun X => (CE.out _ (hU.trans X.u)).2.2.1
            have r2 : ∀ X : Later wr, X.w.cell? ⟨B, 2, none⟩ = some (.int .i64 k.2.2) := fun X => (CE.out _ (hU.trans X.u)).2.2.2
            obtain ⟨bb, hbb⟩ : ∃ bb, bb = before x.1 k := ⟨_, rfl⟩
            have hbf : ∀ W, Calls Try.prog 31 #[.agg #[.int .i64 x.1.1, .int .i64 x.1.2.1, .int .i64 x.1.2.2], .agg #[.int .i64 k.1, .int .i64 k.2.1, .int .i64 k.2.2]] W fun e w' => e = .returned (.bool bb) ∧ Upd No W w' := fun W => by rw [hbb]; exact refBefore_calls _ _ W
            have HBF := Lib.hid hbf
            have HBB := Lib.hid hbb
            have HXX := Lib.hid hx
            clear hbf d0 r1 hbb hx
            cases bb
            · have hins := ins_at (e := (k, nv)) n HBE.out (fun y hy => by rw [HXX.out] at hy; cases hy; exact HBB.out.symm)
              have HINS := Lib.hid hins
              clear hins
              go_wp2_with fail
              refine wp_region_upd wr (by kernel_rfl) (by kernel_rfl) (Upd.refl No wr) ?_
              repeat (quiet_step ((go_at_call 31; exact quiet_upd (HBF.out _))))
              refine wpQuiet_nil ?_
              rintro w4 ⟨⟨_, hU4⟩, rfl⟩
              rename_i w4
              clear x0 x1 x2 r0 r1' r2 c0' HBF HBB HXX
              have hU34 := hU.trans hU4
              clear hU hU4
              go_wp2_with fail
              have hUd : Upd No w4 w4.drew := (Upd.refl No w4).drew
              have CE4 : Hid (∀ W', Upd No w4 W' → W'.cell? ⟨g, 0, none⟩ = some (.slice (some ⟨b, off, none⟩) M.length c0) ∧ W'.cell? ⟨B, 0, none⟩ = some (.int .i64 k.1) ∧ W'.cell? ⟨B, 1, none⟩ = some (.int .i64 k.2.1) ∧ W'.cell? ⟨B, 2, none⟩ = some (.int .i64 k.2.2)) := Lib.hid fun W' h => CE.out _ (hU34.trans h)
              have HS1 : Hid (∀ W', Upd No w4 W' → SlK entE W' (.slice (some ⟨b, off, none⟩) n c0) (M.take n)) := Lib.hid fun W' h => by simpa using ((HO3.out.sl entEnc).no (hU34.trans h)).sub entEnc 0 n (Nat.zero_le _) (by omega)
              have HS2 : Hid (∀ W', Upd No w4 W' → SlK entE W' (.slice (some ⟨b, off + n * 4, none⟩) (M.length - n) (c0 - n)) (M.drop n)) := Lib.hid fun W' h => by
                have := ((HO3.out.sl entEnc).no (hU34.trans h)).sub entEnc n M.length (by omega) (by omega)
                rw [List.take_length] at this
                exact this
              have hs0 : (0 : Int) ≤ (n : Int) := by omega
              have hs1 : (n : Int) ≤ (M.length : Int) := by omega
              have hs2 : (n : Int) ≤ (c0 : Int) := by omega
              have hs3 : n ≤ c0 := by omega
              have hs4 : n < c0 := by omega
              have hs5 : (n : Int) < (c0 : Int) := by omega
              clear CE
              go_region_held_law (fun w' => w'.cell? ⟨g, 0, none⟩ = some (.slice (some ⟨b, off, none⟩) M.length c0) ∧ w'.cell? ⟨B, 0, none⟩ = some (.int .i64 k.1) ∧ w'.cell? ⟨B, 1, none⟩ = some (.int .i64 k.2.1) ∧ w'.cell? ⟨B, 2, none⟩ = some (.int .i64 k.2.2))
                (first | exact CE4.out _ hUd | exact CE4.out _ (hUd.alloc _) | exact CE4.out _ hU5 | exact CE4.out _ (hU5.alloc _) | exact CE4.out _ hU6)
                (first
                  | (refine step_app_k entT entEnc rfl (.tmp 47) (.tmp 53) rfl w4.heap.size (.slice none 0 0) (.slice (some ⟨b, off, none⟩) n c0) [] (M.take n) rfl rfl (OwnK.nil _ _) (HS1.out _ hUd) (by simp; omega) hUd.size ?_; intro v5 w5 ho5 hg5; have hU5 := (OwnK.nil (enc := entE) (E := 66) (k := 4) _ _).grown hUd hg5 (Nat.le_refl _))
                  | (refine step_app_k entT entEnc rfl (.tmp 47) (.tmp 53) rfl w4.heap.size (.slice none 0 0) (.slice (some ⟨b, off, none⟩) n c0) [] (M.take n) rfl rfl (OwnK.nil _ _) (HS1.out _ (hUd.alloc _)) (by simp; omega) (hUd.alloc _).size ?_; intro v5 w5 ho5 hg5; have hU5 := (OwnK.nil (enc := entE) (E := 66) (k := 4) _ _).grown (hUd.alloc _) hg5 (Nat.le_refl _); have hX5 := ((OwnK.nil (enc := entE) (E := 66) (k := 4) _ _).grown (Upd.refl No _) hg5 (Nat.le_refl _)).at (block_new _ _) (fun h => h))
                  | (refine step_app_k entT entEnc rfl (.tmp 54) (.tmp 58) rfl w4.heap.size v5 _ (M.take n) [(k, nv)] rfl rfl (by first | exact ho5 | exact ho5.keep (S := No) ((Upd.refl _ _).alloc _) (fun _ _ h => h)) (by first | exact SlK.one entEnc (x := (k, nv)) hX5 | exact SlK.one entEnc (x := (k, nv)) (block_new _ _)) (by simp; omega) (by first | exact hU5.size | exact (hU5.alloc _).size) ?_; intro v6 w6 ho6 hg6; have hU6 : Upd No w4 w6 := by first | exact ho5.grown hU5 hg6 (Nat.le_refl _) | exact (ho5.keep (S := No) ((Upd.refl _ _).alloc _) (fun _ _ h => h)).grown (hU5.alloc _) hg6 (Nat.le_refl _)))
              all_goals
                have HO6 := Lib.hid (show OwnK entE 66 4 w6 w4.heap.size v6 (M.take n ++ [(k, nv)]) from by simpa using ho6)
                have HG4 := Lib.hid (hU34.at HG3.out (fun h => h))
                have y0 := (CE4.out _ hU6).1
                have HU6 := Lib.hid hU6
                clear ho5 ho6 hg5 hg6 hU5 hU6 CE4 HS1 hUd
                go_wp2_with (with_reducible refine stop_builtin .append ?_)
                refine on (wpList_app_k entT entEnc rfl (.tmp 61) (.tmp 67) rfl w4.heap.size v6 (.slice (some ⟨b, off + n * 4, none⟩) (M.length - n) (c0 - n)) (M.take n ++ [(k, nv)]) (M.drop n) rfl rfl HO6.out (HS2.out _ HU6.out) (by simp; omega) HU6.out.size ?_)
                intro v7 w7 ho7 hg7
                obtain ⟨a7, n7, c7, rfl⟩ := ho7.slice
                have hU7 := HO6.out.grown HU6.out hg7 (Nat.le_refl _)
                have hg77 := hU7.at HG4.out (fun h => h)
                have y1 := (cells_at hg77).1 0
                have y2 := (cells_at hg77).2 0
                have HO7 := Lib.hid ho7
                have HU7 := Lib.hid ((hU3.trans hU34).trans hU7)
                have HG7 := Lib.hid hg77
                have HLT := Lib.hid (show g + 1 ≤ w4.heap.size from heap_lt HG4.out)
                clear y0 hg7 ho7 hU7 hg77
                go_wp2_with fail
                go_ret
                refine RPut.of HR3.out ((HU7.out.no : Upd (One g) w w7).setCell (S := One g) (p := ⟨g, 0, none⟩) (.inr rfl) _) ⟨_, block_set HG7.out _, ?_⟩
                rw [HINS.out]
                have h8 := (HO7.out.keep ((Upd.refl (One g) w7).setCell (p := ⟨g, 0, none⟩) (.inr rfl) (.slice a7 n7 c7)) (fun j hj e => by have h1 := (HO7.out.ge j hj).1; have h2 := HLT.out; rw [show j = g from e] at h1; omega)).mono HLT.out
                simpa using h8
            · go_wp2_with fail
              refine wp_region_upd wr (by kernel_rfl) (by kernel_rfl) (Upd.refl No wr) ?_
              repeat (quiet_step ((go_at_call 31; exact quiet_upd (HBF.out _))))
              refine wpQuiet_nil ?_
              rintro _ ⟨⟨w4, hU4⟩, rfl⟩
              go_wp2_with fail
              go_roundw
              case rel =>
                refine ⟨n + 1, by omega, by go_num, ?_, hU.trans hU4⟩
                rw [List.take_add_one, HXX.out]
                intro y hy
                rcases List.mem_append.1 hy with h | h
                · exact HBE.out y h
                · rw [List.mem_singleton.1 h]; exact HBB.out.symm
              case measure => simp [intOf]; omega
          · have hdf : decide ((n : Int) < (M.length : Int)) = false := by simp; omega
            have hins := ins_at (e := (k, nv)) n HBE.out (fun y hy => by have := (List.getElem?_eq_some_iff.1 hy).1; omega)
            have HINS := Lib.hid hins
            have cc0 := c0' ⟨wr, Upd.refl _ _⟩
            simp only at cc0
            clear c0' hins
            rcases HO3.out.form2 with ⟨hv, hM⟩ | ⟨b, off, cap, hv⟩
            · obtain ⟨hv1, _, hv3⟩ := Value.slice.inj hv
              subst hv1 hv3 hM
              obtain rfl : n = 0 := by simpa using hn
              simp only [List.length_nil] at *
              go_wp2_with fail
              go_quiet (fail)
              have hU34 := hU.drewN nq
              generalize wr.drewN nq = w4 at *
              clear hU cc0 hlt hdf
              go_wp2_with fail
              have hUd : Upd No w4 w4.drew := (Upd.refl No w4).drew
              have CE4 : Hid (∀ W', Upd No w4 W' → W'.cell? ⟨g, 0, none⟩ = some (.slice none 0 0) ∧ W'.cell? ⟨B, 0, none⟩ = some (.int .i64 k.1) ∧ W'.cell? ⟨B, 1, none⟩ = some (.int .i64 k.2.1) ∧ W'.cell? ⟨B, 2, none⟩ = some (.int .i64 k.2.2)) := Lib.hid fun W' h => CE.out _ (hU34.trans h)
              have HS0 : Hid (∀ W', SlK entE W' (.slice none 0 0) ([] : List Ent)) := Lib.hid fun W' => (OwnK.nil (E := 66) (k := 4) W' 0).sl entEnc
              clear CE
              go_region_held_law (fun w' => w'.cell? ⟨g, 0, none⟩ = some (.slice none 0 0) ∧ w'.cell? ⟨B, 0, none⟩ = some (.int .i64 k.1) ∧ w'.cell? ⟨B, 1, none⟩ = some (.int .i64 k.2.1) ∧ w'.cell? ⟨B, 2, none⟩ = some (.int .i64 k.2.2))
                (first | exact CE4.out _ hUd | exact CE4.out _ (hUd.alloc _) | exact CE4.out _ hU5 | exact CE4.out _ (hU5.alloc _) | exact CE4.out _ hU6)
                (first
                  | (refine step_app_k entT entEnc rfl (.tmp 47) (.tmp 53) rfl w4.heap.size (.slice none 0 0) (.slice none 0 0) [] [] rfl rfl (OwnK.nil _ _) (HS0.out _) (by simp) hUd.size ?_; intro v5 w5 ho5 hg5; have hU5 := (OwnK.nil (enc := entE) (E := 66) (k := 4) _ _).grown hUd hg5 (Nat.le_refl _))
                  | (refine step_app_k entT entEnc rfl (.tmp 47) (.tmp 53) rfl w4.heap.size (.slice none 0 0) (.slice none 0 0) [] [] rfl rfl (OwnK.nil _ _) (HS0.out _) (by simp) (hUd.alloc _).size ?_; intro v5 w5 ho5 hg5; have hU5 := (OwnK.nil (enc := entE) (E := 66) (k := 4) _ _).grown (hUd.alloc _) hg5 (Nat.le_refl _); have hX5 := ((OwnK.nil (enc := entE) (E := 66) (k := 4) _ _).grown (Upd.refl No _) hg5 (Nat.le_refl _)).at (block_new _ _) (fun h => h))
                  | (refine step_app_k entT entEnc rfl (.tmp 54) (.tmp 58) rfl w4.heap.size v5 _ [] [(k, nv)] rfl rfl (by first | exact ho5 | exact ho5.keep (S := No) ((Upd.refl _ _).alloc _) (fun _ _ h => h)) (by first | exact SlK.one entEnc (x := (k, nv)) hX5 | exact SlK.one entEnc (x := (k, nv)) (block_new _ _)) (by simp) (by first | exact hU5.size | exact (hU5.alloc _).size) ?_; intro v6 w6 ho6 hg6; have hU6 : Upd No w4 w6 := by first | exact ho5.grown hU5 hg6 (Nat.le_refl _) | exact (ho5.keep (S := No) ((Upd.refl _ _).alloc _) (fun _ _ h => h)).grown (hU5.alloc _) hg6 (Nat.le_refl _)))
              all_goals
                have HO6 := Lib.hid (show OwnK entE 66 4 w6 w4.heap.size v6 [(k, nv)] from by simpa using ho6)
                have HG4 := Lib.hid (hU34.at HG3.out (fun h => h))
                have y0 := (CE4.out _ hU6).1
                have HU6 := Lib.hid hU6
                clear ho5 ho6 hg5 hg6 hU5 hU6 CE4 hUd
                go_wp2_with (with_reducible refine stop_builtin .append ?_)
                refine on (wpList_app_k entT entEnc rfl (.tmp 61) (.tmp 67) rfl w4.heap.size v6 (.slice none 0 0) [(k, nv)] [] rfl rfl HO6.out (HS0.out _) (by simp) HU6.out.size ?_)
                intro v7 w7 ho7 hg7
                obtain ⟨a7, n7, c7, rfl⟩ := ho7.slice
                have hU7 := HO6.out.grown HU6.out hg7 (Nat.le_refl _)
                have hg77 := hU7.at HG4.out (fun h => h)
                have y1 := (cells_at hg77).1 0
                have y2 := (cells_at hg77).2 0
                have HO7 := Lib.hid ho7
                have HU7 := Lib.hid ((hU3.trans hU34).trans hU7)
                have HG7 := Lib.hid hg77
                have HLT := Lib.hid (show g + 1 ≤ w4.heap.size from heap_lt HG4.out)
                clear y0 hg7 ho7 hU7 hg77
                go_wp2_with fail
                go_ret
                refine RPut.of HR3.out ((HU7.out.no : Upd (One g) w w7).setCell (S := One g) (p := ⟨g, 0, none⟩) (.inr rfl) _) ⟨_, block_set HG7.out _, ?_⟩
                rw [HINS.out]
                have h8 := (HO7.out.keep ((Upd.refl (One g) w7).setCell (p := ⟨g, 0, none⟩) (.inr rfl) (.slice a7 n7 c7)) (fun j hj e => by have h1 := (HO7.out.ge j hj).1; have h2 := HLT.out; rw [show j = g from e] at h1; omega)).mono HLT.out
                simpa using h8
            · obtain ⟨hv1, _, hv3⟩ := Value.slice.inj hv
              subst hv1 hv3
              by_cases hnc : n = c0
              · obtain rfl : n = M.length := by omega
                obtain rfl : c0 = M.length := by omega
                go_wp2_with fail
                go_quiet (fail)
                have hU34 := hU.drewN nq
                generalize wr.drewN nq = w4 at *
                clear hU cc0 hlt hdf
                go_wp2_with fail
                have hUd : Upd No w4 w4.drew := (Upd.refl No w4).drew
                have CE4 : Hid (∀ W', Upd No w4 W' → W'.cell? ⟨g, 0, none⟩ = some (.slice (some ⟨b, off, none⟩) M.length M.length) ∧ W'.cell? ⟨B, 0, none⟩ = some (.int .i64 k.1) ∧ W'.cell? ⟨B, 1, none⟩ = some (.int .i64 k.2.1) ∧ W'.cell? ⟨B, 2, none⟩ = some (.int .i64 k.2.2)) := Lib.hid fun W' h => CE.out _ (hU34.trans h)
                have HS1 : Hid (∀ W', Upd No w4 W' → SlK entE W' (.slice (some ⟨b, off, none⟩) M.length M.length) (M.take M.length)) := Lib.hid fun W' h => by simpa using ((HO3.out.sl entEnc).no (hU34.trans h)).sub entEnc 0 M.length (Nat.zero_le _) (by omega)
                have HS2 : Hid (∀ W', Upd No w4 W' → SlK entE W' (.slice (some ⟨b, off, none⟩) 0 0) ([] : List Ent)) := Lib.hid fun W' h => ((HO3.out.sl entEnc).no (hU34.trans h)).left off
                have hs0 : (0 : Int) ≤ (M.length : Int) := by omega
                have hs1 : (M.length : Int) ≤ (M.length : Int) := by omega
                have hs2 : (M.length : Int) ≤ (M.length : Int) := by omega
                have hs3 : M.length ≤ M.length := by omega
                clear CE
                go_region_held_law (fun w' => w'.cell? ⟨g, 0, none⟩ = some (.slice (some ⟨b, off, none⟩) M.length M.length) ∧ w'.cell? ⟨B, 0, none⟩ = some (.int .i64 k.1) ∧ w'.cell? ⟨B, 1, none⟩ = some (.int .i64 k.2.1) ∧ w'.cell? ⟨B, 2, none⟩ = some (.int .i64 k.2.2))
                  (first | exact CE4.out _ hUd | exact CE4.out _ (hUd.alloc _) | exact CE4.out _ hU5 | exact CE4.out _ (hU5.alloc _) | exact CE4.out _ hU6)
                  (first
                    | (refine step_app_k entT entEnc rfl (.tmp 47) (.tmp 53) rfl w4.heap.size (.slice none 0 0) (.slice (some ⟨b, off, none⟩) M.length M.length) [] (M.take M.length) rfl rfl (OwnK.nil _ _) (HS1.out _ hUd) (by simp; omega) hUd.size ?_; intro v5 w5 ho5 hg5; have hU5 := (OwnK.nil (enc := entE) (E := 66) (k := 4) _ _).grown hUd hg5 (Nat.le_refl _))
                    | (refine step_app_k entT entEnc rfl (.tmp 47) (.tmp 53) rfl w4.heap.size (.slice none 0 0) (.slice (some ⟨b, off, none⟩) M.length M.length) [] (M.take M.length) rfl rfl (OwnK.nil _ _) (HS1.out _ (hUd.alloc _)) (by simp; omega) (hUd.alloc _).size ?_; intro v5 w5 ho5 hg5; have hU5 := (OwnK.nil (enc := entE) (E := 66) (k := 4) _ _).grown (hUd.alloc _) hg5 (Nat.le_refl _); have hX5 := ((OwnK.nil (enc := entE) (E := 66) (k := 4) _ _).grown (Upd.refl No _) hg5 (Nat.le_refl _)).at (block_new _ _) (fun h => h))
                    | (refine step_app_k entT entEnc rfl (.tmp 54) (.tmp 58) rfl w4.heap.size v5 _ (M.take M.length) [(k, nv)] rfl rfl (by first | exact ho5 | exact ho5.keep (S := No) ((Upd.refl _ _).alloc _) (fun _ _ h => h)) (by first | exact SlK.one entEnc (x := (k, nv)) hX5 | exact SlK.one entEnc (x := (k, nv)) (block_new _ _)) (by simp; omega) (by first | exact hU5.size | exact (hU5.alloc _).size) ?_; intro v6 w6 ho6 hg6; have hU6 : Upd No w4 w6 := by first | exact ho5.grown hU5 hg6 (Nat.le_refl _) | exact (ho5.keep (S := No) ((Upd.refl _ _).alloc _) (fun _ _ h => h)).grown (hU5.alloc _) hg6 (Nat.le_refl _)))
                all_goals
                  have HO6 := Lib.hid (show OwnK entE 66 4 w6 w4.heap.size v6 (M.take M.length ++ [(k, nv)]) from by simpa using ho6)
                  have HG4 := Lib.hid (hU34.at HG3.out (fun h => h))
                  have y0 := (CE4.out _ hU6).1
                  have HU6 := Lib.hid hU6
                  clear ho5 ho6 hg5 hg6 hU5 hU6 CE4 HS1 hUd
                  go_wp2_with (with_reducible refine stop_builtin .append ?_)
                  refine on (wpList_app_k entT entEnc rfl (.tmp 61) (.tmp 67) rfl w4.heap.size v6 (.slice (some ⟨b, off, none⟩) 0 0) (M.take M.length ++ [(k, nv)]) [] rfl rfl HO6.out (HS2.out _ HU6.out) (by simp; omega) HU6.out.size ?_)
                  intro v7 w7 ho7 hg7
                  obtain ⟨a7, n7, c7, rfl⟩ := ho7.slice
                  have hU7 := HO6.out.grown HU6.out hg7 (Nat.le_refl _)
                  have hg77 := hU7.at HG4.out (fun h => h)
                  have y1 := (cells_at hg77).1 0
                  have y2 := (cells_at hg77).2 0
                  have HO7 := Lib.hid ho7
                  have HU7 := Lib.hid ((hU3.trans hU34).trans hU7)
                  have HG7 := Lib.hid hg77
                  have HLT := Lib.hid (show g + 1 ≤ w4.heap.size from heap_lt HG4.out)
                  clear y0 hg7 ho7 hU7 hg77
                  go_wp2_with fail
                  go_ret
                  refine RPut.of HR3.out ((HU7.out.no : Upd (One g) w w7).setCell (S := One g) (p := ⟨g, 0, none⟩) (.inr rfl) _) ⟨_, block_set HG7.out _, ?_⟩
                  rw [HINS.out]
                  have h8 := (HO7.out.keep ((Upd.refl (One g) w7).setCell (p := ⟨g, 0, none⟩) (.inr rfl) (.slice a7 n7 c7)) (fun j hj e => by have h1 := (HO7.out.ge j hj).1; have h2 := HLT.out; rw [show j = g from e] at h1; omega)).mono HLT.out
                  simpa using h8
              · go_wp2_with fail
                go_quiet (fail)
                have hU34 := hU.drewN nq
                generalize wr.drewN nq = w4 at *
                clear hU cc0 hlt hdf
                go_wp2_with fail
                have hUd : Upd No w4 w4.drew := (Upd.refl No w4).drew
                have CE4 : Hid (∀ W', Upd No w4 W' → W'.cell? ⟨g, 0, none⟩ = some (.slice (some ⟨b, off, none⟩) M.length c0) ∧ W'.cell? ⟨B, 0, none⟩ = some (.int .i64 k.1) ∧ W'.cell? ⟨B, 1, none⟩ = some (.int .i64 k.2.1) ∧ W'.cell? ⟨B, 2, none⟩ = some (.int .i64 k.2.2)) := Lib.hid fun W' h => CE.out _ (hU34.trans h)
                have HS1 : Hid (∀ W', Upd No w4 W' → SlK entE W' (.slice (some ⟨b, off, none⟩) n c0) (M.take n)) := Lib.hid fun W' h => by simpa using ((HO3.out.sl entEnc).no (hU34.trans h)).sub entEnc 0 n (Nat.zero_le _) (by omega)
                have HS2 : Hid (∀ W', Upd No w4 W' → SlK entE W' (.slice (some ⟨b, off + n * 4, none⟩) (M.length - n) (c0 - n)) (M.drop n)) := Lib.hid fun W' h => by
                  have := ((HO3.out.sl entEnc).no (hU34.trans h)).sub entEnc n M.length (by omega) (by omega)
                  rw [List.take_length] at this
                  exact this
                have hs0 : (0 : Int) ≤ (n : Int) := by omega
                have hs1 : (n : Int) ≤ (M.length : Int) := by omega
                have hs2 : (n : Int) ≤ (c0 : Int) := by omega
                have hs3 : n ≤ c0 := by omega
                have hs4 : n < c0 := by omega
                have hs5 : (n : Int) < (c0 : Int) := by omega
                clear CE
                go_region_held_law (fun w' => w'.cell? ⟨g, 0, none⟩ = some (.slice (some ⟨b, off, none⟩) M.length c0) ∧ w'.cell? ⟨B, 0, none⟩ = some (.int .i64 k.1) ∧ w'.cell? ⟨B, 1, none⟩ = some (.int .i64 k.2.1) ∧ w'.cell? ⟨B, 2, none⟩ = some (.int .i64 k.2.2))
                  (first | exact CE4.out _ hUd | exact CE4.out _ (hUd.alloc _) | exact CE4.out _ hU5 | exact CE4.out _ (hU5.alloc _) | exact CE4.out _ hU6)
                  (first
                    | (refine step_app_k entT entEnc rfl (.tmp 47) (.tmp 53) rfl w4.heap.size (.slice none 0 0) (.slice (some ⟨b, off, none⟩) n c0) [] (M.take n) rfl rfl (OwnK.nil _ _) (HS1.out _ hUd) (by simp; omega) hUd.size ?_; intro v5 w5 ho5 hg5; have hU5 := (OwnK.nil (enc := entE) (E := 66) (k := 4) _ _).grown hUd hg5 (Nat.le_refl _))
                    | (refine step_app_k entT entEnc rfl (.tmp 47) (.tmp 53) rfl w4.heap.size (.slice none 0 0) (.slice (some ⟨b, off, none⟩) n c0) [] (M.take n) rfl rfl (OwnK.nil _ _) (HS1.out _ (hUd.alloc _)) (by simp; omega) (hUd.alloc _).size ?_; intro v5 w5 ho5 hg5; have hU5 := (OwnK.nil (enc := entE) (E := 66) (k := 4) _ _).grown (hUd.alloc _) hg5 (Nat.le_refl _); have hX5 := ((OwnK.nil (enc := entE) (E := 66) (k := 4) _ _).grown (Upd.refl No _) hg5 (Nat.le_refl _)).at (block_new _ _) (fun h => h))
                    | (refine step_app_k entT entEnc rfl (.tmp 54) (.tmp 58) rfl w4.heap.size v5 _ (M.take n) [(k, nv)] rfl rfl (by first | exact ho5 | exact ho5.keep (S := No) ((Upd.refl _ _).alloc _) (fun _ _ h => h)) (by first | exact SlK.one entEnc (x := (k, nv)) hX5 | exact SlK.one entEnc (x := (k, nv)) (block_new _ _)) (by simp; omega) (by first | exact hU5.size | exact (hU5.alloc _).size) ?_; intro v6 w6 ho6 hg6; have hU6 : Upd No w4 w6 := by first | exact ho5.grown hU5 hg6 (Nat.le_refl _) | exact (ho5.keep (S := No) ((Upd.refl _ _).alloc _) (fun _ _ h => h)).grown (hU5.alloc _) hg6 (Nat.le_refl _)))
                all_goals
                  have HO6 := Lib.hid (show OwnK entE 66 4 w6 w4.heap.size v6 (M.take n ++ [(k, nv)]) from by simpa using ho6)
                  have HG4 := Lib.hid (hU34.at HG3.out (fun h => h))
                  have y0 := (CE4.out _ hU6).1
                  have HU6 := Lib.hid hU6
                  clear ho5 ho6 hg5 hg6 hU5 hU6 CE4 HS1 hUd
                  go_wp2_with (with_reducible refine stop_builtin .append ?_)
                  refine on (wpList_app_k entT entEnc rfl (.tmp 61) (.tmp 67) rfl w4.heap.size v6 (.slice (some ⟨b, off + n * 4, none⟩) (M.length - n) (c0 - n)) (M.take n ++ [(k, nv)]) (M.drop n) rfl rfl HO6.out (HS2.out _ HU6.out) (by simp; omega) HU6.out.size ?_)
                  intro v7 w7 ho7 hg7
                  obtain ⟨a7, n7, c7, rfl⟩ := ho7.slice
                  have hU7 := HO6.out.grown HU6.out hg7 (Nat.le_refl _)
                  have hg77 := hU7.at HG4.out (fun h => h)
                  have y1 := (cells_at hg77).1 0
                  have y2 := (cells_at hg77).2 0
                  have HO7 := Lib.hid ho7
                  have HU7 := Lib.hid ((hU3.trans hU34).trans hU7)
                  have HG7 := Lib.hid hg77
                  have HLT := Lib.hid (show g + 1 ≤ w4.heap.size from heap_lt HG4.out)
                  clear y0 hg7 ho7 hU7 hg77
                  go_wp2_with fail
                  go_ret
                  refine RPut.of HR3.out ((HU7.out.no : Upd (One g) w w7).setCell (S := One g) (p := ⟨g, 0, none⟩) (.inr rfl) _) ⟨_, block_set HG7.out _, ?_⟩
                  rw [HINS.out]
                  have h8 := (HO7.out.keep ((Upd.refl (One g) w7).setCell (p := ⟨g, 0, none⟩) (.inr rfl) (.slice a7 n7 c7)) (fun j hj e => by have h1 := (HO7.out.ge j hj).1; have h2 := HLT.out; rw [show j = g from e] at h1; omega)).mono HLT.out
                  simpa using h8
end Go.Proofs.Ytoondlbagbgbmaa
