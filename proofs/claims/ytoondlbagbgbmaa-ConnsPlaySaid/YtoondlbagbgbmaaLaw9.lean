/- trunklinelaw09: all, same. -/
import Derived.Test.YtoondlbagbgbmaaRows
import Derived.Test.YtoondlbagbgbmaaBase
import Derived.Test.YtoondlbagbgbmaaProbe
import Derived.Test.YtoondlbagbgbmaaSorted
import Derived.Test.YtoondlbagbgbmaaTab
import Derived.Test.YtoondlbagbgbmaaConns1
import Derived.Test.YtoondlbagbgbmaaOps
import Derived.Test.YtoondlbagbgbmaaSliceK
import Derived.Test.YtoondlbagbgbmaaGrew
import Derived.Test.YtoondlbagbgbmaaAll
namespace Go.Proofs.Ytoondlbagbgbmaa
open Go.RowKit Go.Shelf Go.Proofs.Tab
attribute [local go_sem] Oper.semAt_some

theorem TabIs.grew {B : Nat} {W W' : World} (h : Grew B W W') {b : Nat} {room : Int} {M : List Ent} (hT : TabIs W b room M) : TabIs W' b room M := by
  obtain ⟨S, h1, h2⟩ := hT
  exact ⟨S, h.at h1, h2⟩
/-- An entry's cells. -/
def entE (e : Ent) : List Value := [.int .i64 e.1.1, .int .i64 e.1.2.1, .int .i64 e.1.2.2, .int .i64 e.2]
theorem entT : ElT Try.prog 35 66 4 32 := ElT.of (z := .agg #[.int .i64 0, .int .i64 0, .int .i64 0, .int .i64 0]) Try.underlying35 (by kernel_rfl) rfl (by omega) (by omega)
theorem entEnc : EncK entE 4 := ⟨fun _ => rfl, fun x v hv => by simp [entE] at hv; rcases hv with rfl | rfl | rfl | rfl <;> rfl⟩
def AllInv (w : World) (pre : List Ent) (W : World) : Prop := ∃ v, W.heap[w.heap.size]? = some (.cells #[v] 35 (0, 0)) ∧ OwnK entE 66 4 W (w.heap.size + 1) v pre ∧ Upd No w W
theorem AllInv.own {w : World} {B : Nat} (hB : w.heap.size ≤ B) : OwnFrom B (AllInv w) := ownFrom_grew fun _ _ _ hg ⟨v, h1, h2, h3⟩ => ⟨v, hg.at h1, hg.own h2, hg.upd h3 hB⟩
theorem AllInv.no {w : World} {pre : List Ent} {W W' : World} (h : AllInv w pre W) (hU : Upd No W W') : AllInv w pre W' := by
  obtain ⟨v, h1, h2, h3⟩ := h
  exact ⟨v, hU.at h1 (fun e => e), h2.keep hU (fun _ _ e => e), h3.trans hU⟩
set_option maxRecDepth 100000 in
set_option maxHeartbeats 1000000 in
theorem allL_gen (p : Option Addr) (M : List Ent) (w : World) (hit : ∀ W, Upd No w W → W.cell? ⟨w.heap.size + 1, 0, none⟩ = some (.pointer p) → Iter Try.prog 26 #[.pointer (some ⟨w.heap.size + 1, 0, none⟩)] entV slotKeep M W) (hM : M.length ≤ 128) :
    Calls Try.prog 11 #[.pointer p] w fun e w' => ∃ v, e = .returned v ∧ OwnK entE 66 4 w' w.heap.size v M ∧ Upd No w w' := by
  have HM := Lib.hid hM
  clear hM
  refine calls_marks Try.func11 rfl ?_
  simp only [Try.ntmps11, List.size_toArray, List.length_cons, List.length_nil, Nat.reduceAdd, Nat.reduceSub, Array.replicate_succ, Array.replicate_zero, List.push_toArray, List.append_toArray, List.nil_append, List.cons_append]
  go_wp2_with fail
  refine (all_calls _ _).mono ?_
  rintro e w1 ⟨rfl, hw1⟩
  have hU1 : Upd No w w1 := by rw [hw1]; exact ((Upd.refl _ w).alloc _).alloc _
  have hc1 : w1.heap[w.heap.size + 1]? = some (.cells #[.pointer p] 24 (0, 0)) := by rw [hw1]; exact block_new2 w _ _
  have ho1 : w1.heap[w.heap.size]? = some (.cells #[.slice none 0 0] 35 (0, 0)) := by rw [hw1]; exact block_old (block_new w _) _
  have hs1 := heap_lt hc1
  have H1 := Lib.hid (show AllInv w [] w1 from ⟨_, ho1, OwnK.nil _ _, hU1⟩)
  have HC := Lib.hid (show w1.cell? ⟨w.heap.size + 1, 0, none⟩ = some (.pointer p) from (cells_at hc1).1 0)
  have HU1 := Lib.hid hU1
  clear hw1 hc1 ho1 hU1
  go_wp2_with fail
  refine range_out (gf := 26) (lb := #[.pointer (some ⟨w.heap.size + 1, 0, none⟩)]) rfl (enters_of Try.func26 (by kernel_rfl) rfl)
    (hit w1 HU1.out HC.out)
    (fun k o h => .inr (by obtain ⟨c, m, rfl⟩ := h; rfl)) (fun _ => rfl)
    (AllInv w) (fun _ _ _ => False) (AllInv.own (by omega)) (fun _ => ownFrom_false) H1.out ?round ?done ?stop
  case stop =>
    rintro D c pre W _ _ h _
    exact h.elim
  case round =>
    intro l pre x post W hx hl hi
    have hlen : pre.length ≤ 128 := by have := congrArg List.length hx; simp at this; have := HM.out; omega
    have HI := Lib.hid hi
    have HX := Lib.hid hx
    have hU1b : Upd No W (W.alloc (.cells #[.int .i64 x.1.1, .int .i64 x.1.2.1, .int .i64 x.1.2.2] 29)) := (Upd.refl _ W).alloc _
    have hI2 := hi.no hU1b
    have hkb := block_new W (.cells #[.int .i64 x.1.1, .int .i64 x.1.2.1, .int .i64 x.1.2.2] 29)
    have HI2 := Lib.hid hI2
    have HKB := Lib.hid hkb
    clear hi hx hI2 hkb
    unfold entV
    gi_wp2
    refine ⟨hU1b.keepsFrom (fun _ _ h => h.elim), hU1b.keeps (fun _ _ h => h.elim), fun W' => AllInv w pre W' ∧ W'.heap[W.heap.size]? = some (.cells #[.int .i64 x.1.1, .int .i64 x.1.2.1, .int .i64 x.1.2.2] 29 (0, 0)), ?_, ⟨HI2.out, HKB.out⟩, ?_⟩
    · exact ownFrom_grew (β := Unit) fun _ _ _ hg ⟨⟨v, h1, h2, h3⟩, h4⟩ => ⟨⟨v, hg.at h1, hg.own h2, hg.upd h3 (by omega)⟩, hg.at h4⟩
    clear hU1b HI2 HKB HI
    rintro Wb _ ⟨⟨v, b1, b2, b3⟩, bk⟩
    have f1 := (cells_at b1).1 0
    have f2 := (cells_at b1).2 0
    have g0 := (cells_at bk).1 0
    have g1 := (cells_at bk).1 1
    have g2 := (cells_at bk).1 2
    have B1 := Lib.hid b1
    have B2 := Lib.hid b2
    have hbs := heap_lt b1
    have hbs2 := b3.size
    clear b1 b2 bk
    gi_wp2_with (with_reducible refine gstop_builtin .append ?_)
    have hown2 := B2.out.keep ((Upd.refl No Wb).alloc (.cells #[.int .i64 x.1.1, .int .i64 x.1.2.1, .int .i64 x.1.2.2, .int .i64 x.2] 66)) (fun _ _ h => h)
    have HOWN2 := Lib.hid hown2
    have hb0 : w.heap.size + 1 ≤ (Wb.alloc (.cells #[.int .i64 x.1.1, .int .i64 x.1.2.1, .int .i64 x.1.2.2, .int .i64 x.2] 66)).heap.size := by rw [World.size_alloc]; omega
    clear hown2
    refine on (wpListIn_app_k entT entEnc rfl (.tmp 10) (.tmp 14) rfl (w.heap.size + 1) _ _ pre [x] rfl rfl HOWN2.out (SlK.one entEnc (x := x) (block_new _ _)) (by simp only [List.length_cons, List.length_nil]; omega) hb0 ?_)
    intro v' Wc hown' hgr
    obtain ⟨a', n', c', rfl⟩ := hown'.slice
    have hUc : Upd No w Wc := HOWN2.out.grown (b3.alloc _) hgr (by omega)
    have hUd : Upd (fun k => v.ownBlock = some k) Wb Wc := ((Upd.refl _ Wb).alloc _).grown hgr (fun k h => .inr h)
    have hne : v.ownBlock ≠ some w.heap.size := by
      intro h; have := (B2.out.ge _ h).1; omega
    have c1 := (cells_at (hUd.at B1.out hne)).1 0
    have c2 := (cells_at (hUd.at B1.out hne)).2 0
    have HC1 := Lib.hid (hUd.at B1.out hne)
    have HOWN' := Lib.hid hown'
    have HNE := Lib.hid hne
    clear hown' hgr hb0 f1 f2 g0 g1 g2 hne
    gi_wp2
    have hUe : Upd (fun k => k = w.heap.size ∨ v.ownBlock = some k) Wb (Wc.setCell ⟨w.heap.size, 0, none⟩ (.slice a' n' c')) := (hUd.mono (fun k _ h => .inr h)).setCell (.inr (.inl rfl)) _
    refine ⟨hUe.keepsFrom ?_, hUe.keeps ?_, .slice a' n' c', ?_, ?_, ?_⟩
    · intro k o hk hB ho
      rcases hk with rfl | hk
      · omega
      · obtain ⟨cur, hc⟩ := B2.out.block hk
        rw [hc] at ho; cases ho; rfl
    · intro k o hk ho
      rintro ⟨c, m, rfl⟩
      rcases hk with rfl | hk
      · rw [B1.out] at ho; simp at ho
      · obtain ⟨cur, hc⟩ := B2.out.block hk
        rw [hc] at ho; simp at ho
    · exact block_set HC1.out _
    · refine HOWN'.out.keepObj (fun g cur hg ho => ?_)
      refine block_other ho ?_ _
      intro h
      have := (HOWN'.out.ge g hg).1
      simp only at h
      omega
    · exact hUc.setCell (.inl (Nat.le_refl _)) _
  case done =>
    rintro D W hD ⟨v, h1, h2, h3⟩ hK
    have c1 := (cells_at h1).1 0
    have H2 := Lib.hid h2
    have H3 := Lib.hid h3
    clear h1 h2 h3
    go_wp2
    refine fin_marks (B := w.heap.size) _ [D] W (by simp) (by simp; exact ⟨by omega, hK⟩) (fun W' hW' => ⟨_, results_tmp rfl _ _ _, v, rfl, ?_, hW'.upd H3.out (Nat.le_refl _)⟩)
    exact (hW'.grew.own H2.out).mono (by omega)
theorem allL_calls (b : Nat) (room : Int) (M : List Ent) (w : World) (hT : TabIs w b room M) :
    Calls Try.prog 11 #[.pointer (some ⟨b, 0, none⟩)] w fun e w' => ∃ v, e = .returned v ∧ OwnK entE 66 4 w' w.heap.size v M ∧ Upd No w w' :=
  allL_gen _ M w (fun W hU hc => all_iter _ b room M W hc (hT.upd hU (fun h => h))) (by have := hT.le; omega)
theorem allL_nil (w : World) :
    Calls Try.prog 11 #[.pointer none] w fun e w' => ∃ v, e = .returned v ∧ OwnK entE 66 4 w' w.heap.size v [] ∧ Upd No w w' :=
  allL_gen _ [] w (fun W _ hc => all_iter_nil _ W hc) (by simp)
end Go.Proofs.Ytoondlbagbgbmaa
