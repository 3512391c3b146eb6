/- The statement ConnsOrder: the walk of the law. -/
import Derived.Test.YtoondlbagbgbmaaRows
import Derived.Test.YtoondlbagbgbmaaBase
import Derived.Test.YtoondlbagbgbmaaProbe
import Derived.Test.YtoondlbagbgbmaaSorted
import Derived.Test.YtoondlbagbgbmaaTab
import Derived.Test.YtoondlbagbgbmaaEq
import Derived.Test.YtoondlbagbgbmaaConns1
import Derived.Test.YtoondlbagbgbmaaPut
import Derived.Test.YtoondlbagbgbmaaDrop
import Derived.Test.YtoondlbagbgbmaaCmp
import Derived.Test.YtoondlbagbgbmaaOps
import Derived.Test.YtoondlbagbgbmaaSliceK
import Derived.Test.YtoondlbagbgbmaaGrew
import Derived.Test.YtoondlbagbgbmaaAll
import Derived.Test.YtoondlbagbgbmaaLaw9
import Derived.Test.YtoondlbagbgbmaaAwake9
import Derived.Test.YtoondlbagbgbmaaGiveK
import Derived.Test.YtoondlbagbgbmaaPuts9
import Derived.StillTailTactics
import Derived.Deep.RegionHeld3
namespace Go.Proofs.Ytoondlbagbgbmaa
open Go.RowKit Go.Shelf Go.Proofs.Tab
attribute [local go_sem] Oper.semAt_some
theorem lit_cellO (w : World) (d : Nat) (a : Addr) : World.cell? { heap := w.heap, tape := w.tape, drawn := d, os := w.os, output := w.output } a = w.cell? a := rfl
attribute [local go_sem] lit_cellO

/-- What lies in the boxes: three keys, the stop, the result; a table in its own. -/
structure OBox (w : World) (r b1 : Nat) (ka kb kc : Key) (st : Nat) (M : List Ent) (W : World) : Prop where
  fa : W.heap[r]? = some (.cells #[.int .i64 ka.1, .int .i64 ka.2.1, .int .i64 ka.2.2] 29 (0, 0))
  fb : W.heap[r + 1]? = some (.cells #[.int .i64 kb.1, .int .i64 kb.2.1, .int .i64 kb.2.2] 29 (0, 0))
  fc : W.heap[r + 1 + 1]? = some (.cells #[.int .i64 kc.1, .int .i64 kc.2.1, .int .i64 kc.2.2] 29 (0, 0))
  fs : W.heap[r + 1 + 1 + 1]? = some (.cells #[.int .u8 (st : Int)] 5 (0, 0))
  fr : W.heap[r + 1 + 1 + 1 + 1]? = some (.cells #[.bool false] 4 (0, 0))
  t1 : TabIs W b1 64 M
  up : Upd No w W
theorem OBox.grew {w : World} {r b1 : Nat} {ka kb kc : Key} {st : Nat} {M : List Ent} {W W' : World} {B : Nat} (h : OBox w r b1 ka kb kc st M W) (hg : Grew B W W') (hB : w.heap.size ≤ B) : OBox w r b1 ka kb kc st M W' :=
  ⟨hg.at h.fa, hg.at h.fb, hg.at h.fc, hg.at h.fs, hg.at h.fr, h.t1.grew hg, hg.upd h.up hB⟩
theorem OBox.upd {w : World} {r b1 : Nat} {ka kb kc : Key} {st : Nat} {M M' : List Ent} {W W' : World} {S : Nat → Prop} (h : OBox w r b1 ka kb kc st M W) (hU : Upd S W W') (ht : TabIs W' b1 64 M') (hS : ∀ k, S k → r + 1 + 1 + 1 + 1 < k ∧ w.heap.size ≤ k) : OBox w r b1 ka kb kc st M' W' :=
  ⟨hU.at h.fa (fun e => by have := hS _ e; omega), hU.at h.fb (fun e => by have := hS _ e; omega), hU.at h.fc (fun e => by have := hS _ e; omega), hU.at h.fs (fun e => by have := hS _ e; omega), hU.at h.fr (fun e => by have := hS _ e; omega), ht, h.up.then hU (fun i hi e => by have := hS _ e; omega)⟩
theorem OBox.no {w : World} {r b1 : Nat} {ka kb kc : Key} {st : Nat} {M : List Ent} {W W' : World} (h : OBox w r b1 ka kb kc st M W) (hU : Upd No W W') : OBox w r b1 ka kb kc st M W' := h.upd hU (h.t1.upd hU (fun e => e)) (fun _ e => e.elim)

structure OI (w : World) (r b1 c : Nat) (ka kb kc : Key) (st : Nat) (M : List Ent) (W : World) : Prop where
  o : OBox w r b1 ka kb kc st M W
  cc : W.heap[c]? = some (.cells #[.pointer (some ⟨b1, 0, none⟩)] 24 (0, 0))
theorem OI.no {w : World} {r b1 c : Nat} {ka kb kc : Key} {st : Nat} {M : List Ent} {W W' : World} (h : OI w r b1 c ka kb kc st M W) (hU : Upd No W W') : OI w r b1 c ka kb kc st M W' := ⟨h.o.no hU, hU.at h.cc (fun h => h)⟩
theorem OI.grew {w : World} {r b1 c : Nat} {ka kb kc : Key} {st : Nat} {M : List Ent} {W W' : World} {B : Nat} (h : OI w r b1 c ka kb kc st M W) (hg : Grew B W W') (hB : w.heap.size ≤ B) : OI w r b1 c ka kb kc st M W' := ⟨h.o.grew hg hB, hg.at h.cc⟩
theorem OI.upd {w : World} {r b1 c : Nat} {ka kb kc : Key} {st : Nat} {M M' : List Ent} {W W' : World} {S : Nat → Prop} (h : OI w r b1 c ka kb kc st M W) (hU : Upd S W W') (ht : TabIs W' b1 64 M') (hS : ∀ k, S k → r + 1 + 1 + 1 + 1 < k ∧ w.heap.size ≤ k ∧ k ≠ c) : OI w r b1 c ka kb kc st M' W' :=
  ⟨h.o.upd hU ht (fun k e => ⟨(hS k e).1, (hS k e).2.1⟩), hU.at h.cc (fun e => (hS _ e).2.2 rfl)⟩
/-- While all are told: how many, and which one was the last. -/
structure OL (w : World) (r b1 c bn bl : Nat) (ka kb kc : Key) (st : Nat) (M : List Ent) (n : Nat) (kl : Key) (W : World) : Prop where
  i : OI w r b1 c ka kb kc st M W
  nn : W.heap[bn]? = some (.cells #[.int .i64 (n : Int)] 3 (0, 0))
  ll : W.heap[bl]? = some (.cells #[.int .i64 kl.1, .int .i64 kl.2.1, .int .i64 kl.2.2] 29 (0, 0))
theorem OL.no {w : World} {r b1 c bn bl : Nat} {ka kb kc kl : Key} {st n : Nat} {M : List Ent} {W W' : World} (h : OL w r b1 c bn bl ka kb kc st M n kl W) (hU : Upd No W W') : OL w r b1 c bn bl ka kb kc st M n kl W' := ⟨h.i.no hU, hU.at h.nn (fun h => h), hU.at h.ll (fun h => h)⟩
theorem OL.grew {w : World} {r b1 c bn bl : Nat} {ka kb kc kl : Key} {st n : Nat} {M : List Ent} {W W' : World} {B : Nat} (h : OL w r b1 c bn bl ka kb kc st M n kl W) (hg : Grew B W W') (hB : w.heap.size ≤ B) : OL w r b1 c bn bl ka kb kc st M n kl W' := ⟨h.i.grew hg hB, hg.at h.nn, hg.at h.ll⟩

theorem drop_head {x : Ent} {post : List Ent} (hs : Sorted Prod.fst (x :: post)) : delK Prod.fst (x :: post) x.1 = post := by
  obtain ⟨h1, h2⟩ := List.pairwise_cons.1 hs
  unfold delK
  rw [List.filter_cons, if_neg (by simp)]
  exact List.filter_eq_self.2 (fun y hy => by simpa using (before_ne (h1 y hy)).symm)
/-- The key that was told last; none: the zero key. -/
def lastOf (pre : List Ent) : Key := match pre.getLast? with | some e => e.1 | none => (0, 0, 0)

/-- Two ways to the same place. -/
theorem shared {H G : Nat → World → Prop} {R : Prop} (h1 : (∀ D W, H D W → G D W) → R) (h2 : ∀ D W, H D W → G D W) : R := h1 h2
theorem order_res (tmps : Array Value) (W : World) (b : Nat) (v : Bool) (h : tmps[10]?.getD undef = .pointer (some ⟨b, 0, none⟩)) (hc : W.cell? ⟨b, 0, none⟩ = some (.bool v)) : (results Try.f4 tmps).run Try.prog W = .ok (.bool v) W := by
  simp [results, Try.results4, go_sem, h, hc]
set_option maxRecDepth 100000 in
set_option maxHeartbeats 1000000 in
theorem order_early (a1 : Option Addr) (n1 c1 : Nat) (ka kb kc : Key) (st : Int) (w : World) (h : (200 : Int) < (n1 : Int)) : Calls Try.prog 4 #[.slice a1 n1 c1, .agg #[.int .i64 ka.1, .int .i64 ka.2.1, .int .i64 ka.2.2], .agg #[.int .i64 kb.1, .int .i64 kb.2.1, .int .i64 kb.2.2], .agg #[.int .i64 kc.1, .int .i64 kc.2.1, .int .i64 kc.2.2], .int .u8 st] w fun e w' => e = .returned (.bool true) ∧ Upd No w w' := by
  go_enter Try.func4, Try.ntmps4
  go_wp2_with fail
  refine (awake9 _).mono ?_
  rintro e w1 ⟨rfl, hU1⟩
  go_wp2_with fail
  refine (awake9 _).mono ?_
  rintro e w2 ⟨rfl, hU2⟩
  have hU := hU1.trans hU2
  have hU' : Upd No w w2 := ((((((Upd.refl No w).alloc _).alloc _).alloc _).alloc _).alloc _).trans hU
  have hr : w2.heap[w.heap.size + 1 + 1 + 1 + 1]? = some (.cells #[.bool false] 4 (0, 0)) := by
    refine hU.at ?_ (fun h => h)
    have := block_new ((((w.alloc (.cells #[.int .i64 ka.1, .int .i64 ka.2.1, .int .i64 ka.2.2] 29)).alloc (.cells #[.int .i64 kb.1, .int .i64 kb.2.1, .int .i64 kb.2.2] 29)).alloc (.cells #[.int .i64 kc.1, .int .i64 kc.2.1, .int .i64 kc.2.2] 29)).alloc (.cells #[.int .u8 st] 5)) (.cells #[.bool false] 4)
    simpa only [World.size_alloc] using this
  have c0 := (cells_at hr).1 0
  have c1 := (cells_at hr).2 0
  go_wp2_with fail
  exact bodyPost_ret (order_res _ _ (w.heap.size + 1 + 1 + 1 + 1) true rfl ((cells_at (block_set hr (.bool true))).1 0)) rfl ⟨rfl, hU'.setCell (.inl (by show w.heap.size ≤ w.heap.size + 1 + 1 + 1 + 1; omega)) _⟩
set_option maxRecDepth 100000 in
set_option maxHeartbeats 1000000 in
set_option maxHeartbeats 8000000 in
theorem order_walk (u1 : Value) (l1 : List Ent) (ka kb kc : Key) (st : Nat) (hst : st < 256) (w : World) (ha1 : ArgK entE w u1 l1) (hn1 : l1.length ≤ 200) : Calls Try.prog 4 #[u1, .agg #[.int .i64 ka.1, .int .i64 ka.2.1, .int .i64 ka.2.2], .agg #[.int .i64 kb.1, .int .i64 kb.2.1, .int .i64 kb.2.2], .agg #[.int .i64 kc.1, .int .i64 kc.2.1, .int .i64 kc.2.2], .int .u8 (st : Int)] w fun e w' => e = .returned (.bool true) ∧ Upd No w w' := by
  obtain ⟨a1, q1, rfl⟩ := ha1.shape
  have HA1 := Lib.hid ha1
  have hi1 : (l1.length : Int) ≤ 200 := by omega
  clear ha1
  refine calls_marks Try.func4 rfl ?_
  simp only [Try.ntmps4, List.size_toArray, List.length_cons, List.length_nil, Nat.reduceAdd, Nat.reduceSub, Array.replicate_succ, Array.replicate_zero, List.push_toArray, List.append_toArray, List.nil_append, List.cons_append]
  go_wp2_with fail
  refine (awake9 _).mono ?_
  rintro e w1 ⟨rfl, hU1⟩
  go_wp2_with fail
  refine (new_calls 64 _).mono ?_
  rintro e w2 ⟨rfl, hU2, hT2⟩
  rw [show max 0 (min (64 : Int) 64) = 64 from by omega] at hT2
  obtain ⟨r, hr⟩ : ∃ r, r = w.heap.size := ⟨_, rfl⟩
  obtain ⟨b1, hb1⟩ : ∃ b1, b1 = w1.heap.size := ⟨_, rfl⟩
  rw [← hb1] at hT2 ⊢
  have e2 := hT2.lt
  have hU02 := hU1.trans hU2
  have hs1 : r + 1 + 1 + 1 + 1 < b1 := by
    have := hU1.size
    simp only [World.size_alloc] at this
    omega
  have bx : ∀ (k : Nat) (o : Obj), (((((w.alloc (.cells #[.int .i64 ka.1, .int .i64 ka.2.1, .int .i64 ka.2.2] 29)).alloc (.cells #[.int .i64 kb.1, .int .i64 kb.2.1, .int .i64 kb.2.2] 29)).alloc (.cells #[.int .i64 kc.1, .int .i64 kc.2.1, .int .i64 kc.2.2] 29)).alloc (.cells #[.int .u8 (st : Int)] 5)).alloc (.cells #[.bool false] 4)).heap[k]? = some o → w2.heap[k]? = some o := fun k o h => hU02.at h (fun e => e)
  have hI0 : OI w r b1 w2.heap.size ka kb kc st [] (w2.alloc (.cells #[.pointer (some ⟨b1, 0, none⟩)] 24)) := by
    refine ⟨⟨?_, ?_, ?_, ?_, ?_, hT2.upd ((Upd.refl No w2).alloc _) (fun h => h), ((((((((Upd.refl No w).alloc _).alloc _).alloc _).alloc _).alloc _).trans hU02).alloc _)⟩, block_new _ _⟩
    · refine block_old (bx _ _ (block_old (block_old (block_old (block_old ?_ _) _) _) _)) _
      rw [hr]; exact block_new w _
    · refine block_old (bx _ _ (block_old (block_old (block_old ?_ _) _) _)) _
      rw [hr]; exact block_new2 w _ _
    · refine block_old (bx _ _ (block_old (block_old ?_ _) _)) _
      rw [hr, ← World.size_alloc, ← World.size_alloc]; exact block_new _ _
    · refine block_old (bx _ _ (block_old ?_ _)) _
      rw [hr, ← World.size_alloc, ← World.size_alloc, ← World.size_alloc]; exact block_new _ _
    · refine block_old (bx _ _ ?_) _
      rw [hr, ← World.size_alloc, ← World.size_alloc, ← World.size_alloc, ← World.size_alloc]; exact block_new _ _
  obtain ⟨c, hc⟩ : ∃ c, c = w2.heap.size := ⟨_, rfl⟩
  rw [← hc] at hI0
  have HI0 := Lib.hid hI0
  have HC := Lib.hid hc
  have HR := Lib.hid hr
  have hbc : b1 < c := by omega
  have hrw : w.heap.size ≤ r := Nat.le_of_eq hr.symm
  clear hI0 hU1 hU2 hU02 hT2 e2 hb1 hc bx
  rw [← hr]
  clear hr
  go_wp2_with fail
  rw [← HC.out]
  go_loopw [28] (fun i wr => ∃ k : Nat, k ≤ l1.length ∧ i = .int .i64 (k : Int) ∧ OI w r b1 c ka kb kc st (putsOf 64 [] (l1.take k)) wr) (fun i _ => l1.length - (intOf i).toNat)
  case atStart => exact ⟨0, Nat.zero_le _, rfl, HI0.out⟩
  case round =>
    obtain ⟨k, hk, rfl, hi⟩ := hrel
    have HI := Lib.hid hi
    have z0 := (cells_at hi.cc).1 0
    by_cases hlt : k < l1.length
    · obtain ⟨x, hx⟩ : ∃ x, l1[k]? = some x := ⟨_, List.getElem?_eq_getElem hlt⟩
      obtain ⟨ba, oa, ca, hv, hca, hcm, hba, hcl⟩ := HA1.out.known entEnc (by rintro rfl; simp at hlt)
      simp only [Value.slice.injEq, true_and] at hv
      obtain ⟨rfl, rfl⟩ := hv
      have x0 := hi.o.up.cell ((hcl k x hx 0 (by omega)).trans rfl) (fun h => h)
      have x1 := hi.o.up.cell ((hcl k x hx 1 (by omega)).trans rfl) (fun h => h)
      have x2 := hi.o.up.cell ((hcl k x hx 2 (by omega)).trans rfl) (fun h => h)
      have x3 := hi.o.up.cell ((hcl k x hx 3 (by omega)).trans rfl) (fun h => h)
      simp only [Nat.add_zero] at x0
      have hk0 : (0 : Int) ≤ (k : Int) := by omega
      have hk1 : (k : Int) < (l1.length : Int) := by omega
      have hcmi : q1 ≤ 9223372036854775807 := by unfold maxLen at hcm; omega
      have HX := Lib.hid hx
      clear hi hcl hcm hx
      go_wp2
      go_still_tail 11, (by kernel_rfl)
      change wpList _ _ _ _ _ wr.drew
      have hid := HI.out.no ((Upd.refl No wr).drew)
      have HID := Lib.hid hid
      generalize wr.drew = wd at *
      clear hid x0 x1 x2 x3 HI z0
      go_wp2_with fail
      refine (put_calls b1 64 _ x.1 x.2 _ HID.out.o.t1).mono ?_
      rintro e w5 ⟨rfl, hU5, hT5⟩
      have hi5 := HID.out.upd hU5 hT5 (fun k hk => by rw [show k = b1 from hk]; omega)
      have HI5 := Lib.hid hi5
      clear hi5 hU5 hT5
      go_wp2
      go_roundw
      case rel => exact ⟨k + 1, by omega, by go_num, by rw [putsOf_succ HX.out]; exact HI5.out⟩
      case measure => simp [intOf]; omega
    · obtain rfl : k = l1.length := by omega
      rw [List.take_length] at hi
      obtain ⟨M, hM⟩ : ∃ M, M = putsOf 64 [] l1 := ⟨_, rfl⟩
      rw [← hM] at hi
      have HI := Lib.hid hi
      have HSRT := Lib.hid hi.o.t1.sorted
      have hM64 : (M.length : Int) ≤ 64 := by have := hi.o.t1.le; omega
      have hcl0 : c < wr.heap.size := heap_lt hi.cc
      have hcl1 : c ≠ wr.heap.size := Nat.ne_of_lt hcl0
      have hcl2 : c ≠ wr.heap.size + 1 := by omega
      clear hi hM HI0 hlt hk
      go_wp2_with fail
      refine (len_calls _ _ _ _ HI.out.o.t1).mono ?_
      rintro e w5 ⟨rfl, rfl⟩
      go_wp2_with fail
      refine (all_calls _ _).mono ?_
      rintro e w5 ⟨rfl, hw5⟩
      obtain ⟨bn, hbn⟩ : ∃ bn, bn = wr.heap.size := ⟨_, rfl⟩
      have hn5 : w5.heap[bn]? = some (.cells #[.int .i64 0] 3 (0, 0)) := by rw [hw5, hbn]; exact block_old (block_old (block_new wr _) _) _
      have hl5 : w5.heap[bn + 1]? = some (.cells #[.int .i64 0, .int .i64 0, .int .i64 0] 29 (0, 0)) := by rw [hw5, hbn]; exact block_old (block_new2 wr _ _) _
      have hc5 : w5.heap[bn + 1 + 1]? = some (.cells #[.pointer (some ⟨b1, 0, none⟩)] 24 (0, 0)) := by
        rw [hw5, hbn, ← World.size_alloc, ← World.size_alloc]; exact block_new _ _
      have hU5 : Upd No wr w5 := by rw [hw5]; exact (((Upd.refl _ _).alloc _).alloc _).alloc _
      have hs5 := heap_lt hc5
      have hL5 : OL w r b1 c bn (bn + 1) ka kb kc st M 0 (0, 0, 0) w5 := ⟨HI.out.no hU5, hn5, hl5⟩
      have HL5 := Lib.hid hL5
      have HC5 := Lib.hid (show w5.cell? ⟨bn + 1 + 1, 0, none⟩ = some (.pointer (some ⟨b1, 0, none⟩)) from (cells_at hc5).1 0)
      have hcn : c < bn := by rw [hbn]; exact heap_lt HI.out.cc
      have hww : w.heap.size ≤ bn := by rw [hbn]; exact HI.out.o.up.size
      have HBN := Lib.hid hbn
      clear hw5 hn5 hl5 hc5 hU5 hL5 hbn z0
      go_wp2_with fail
      rw [← HBN.out]
      apply shared (H := fun D W => ∃ N kl, w5.heap.size ≤ D ∧ OL w r b1 c bn (bn + 1) ka kb kc st (M.drop N) N kl W ∧ N ≤ M.length ∧ (N : Int) = min (M.length : Int) ((st : Int) + 1) ∧ W.heap[D]? = some (.deferred (some [])))
      · intro tail
        refine range_out (gf := 26) (lb := #[.pointer (some ⟨bn + 1 + 1, 0, none⟩)]) rfl (enters_of Try.func26 (by kernel_rfl) rfl)
          (all_iter (bn + 1 + 1) b1 64 M w5 HC5.out HL5.out.i.o.t1)
          (fun k o h => .inr (by obtain ⟨c, m, rfl⟩ := h; rfl)) (fun _ => rfl)
          (fun pre W => OL w r b1 c bn (bn + 1) ka kb kc st (M.drop pre.length) pre.length (lastOf pre) W ∧ pre.length ≤ st)
          (fun cd pre W => cd = .exit 2 ∧ OL w r b1 c bn (bn + 1) ka kb kc st (M.drop pre.length) pre.length (lastOf pre) W ∧ pre.length = st + 1)
          (ownFrom_grew fun _ _ _ hg h => ⟨h.1.grew hg (by omega), h.2⟩) (fun _ => ownFrom_grew fun _ _ _ hg h => ⟨h.1, h.2.1.grew hg (by omega), h.2.2⟩) ⟨HL5.out, Nat.zero_le _⟩ ?round ?done ?stop
        case round =>
          intro l pre x post W hx hl hi
          have hU1b : Upd No W (W.alloc (.cells #[.int .i64 x.1.1, .int .i64 x.1.2.1, .int .i64 x.1.2.2] 29)) := (Upd.refl _ W).alloc _
          have hI2 := hi.1.no hU1b
          have hpst := hi.2
          have hWl : bn + 1 < W.heap.size := heap_lt hi.1.ll
          have hkb := block_new W (.cells #[.int .i64 x.1.1, .int .i64 x.1.2.1, .int .i64 x.1.2.2] 29)
          obtain ⟨n, hn⟩ : ∃ n, n = pre.length := ⟨_, rfl⟩
          have hdrop : M.drop n = x :: post := by rw [hx, hn, List.drop_left]
          have hdrop2 : M.drop (n + 1) = post := by rw [← List.drop_drop, hdrop]; rfl
          have hsx : Sorted Prod.fst (x :: post) := by rw [← hdrop]; exact HSRT.out.drop
          have hlast : n ≠ 0 → before (lastOf pre) x.1 = true := by
            intro h0
            have hne : pre ≠ [] := by rintro rfl; exact h0 hn
            have h1 := HSRT.out
            rw [hx] at h1
            unfold Sorted at h1
            rw [List.pairwise_append] at h1
            have h2 := h1.2.2 _ (List.getLast_mem hne) x (by simp)
            unfold lastOf
            rw [List.getLast?_eq_some_getLast hne]
            exact h2
          have hlp : lastOf (pre ++ [x]) = x.1 := by simp [lastOf]
          have hnM : n < M.length := by rw [hx, hn]; simp
          rw [← hn, hdrop] at hI2
          have HI2 := Lib.hid hI2
          have HKB := Lib.hid hkb
          have HN := Lib.hid hn
          have HD2 := Lib.hid hdrop2
          have HSX := Lib.hid hsx
          have HLA := Lib.hid hlast
          have HLP := Lib.hid hlp
          clear hi hx hI2 hkb hdrop hdrop2 hsx hlast hlp
          rw [← hn] at hpst
          clear hn
          unfold entV
          gi_wp2
          refine ⟨hU1b.keepsFrom (fun _ _ h => h.elim), hU1b.keeps (fun _ _ h => h.elim), fun W' => OL w r b1 c bn (bn + 1) ka kb kc st (x :: post) n (lastOf pre) W' ∧ W'.heap[W.heap.size]? = some (.cells #[.int .i64 x.1.1, .int .i64 x.1.2.1, .int .i64 x.1.2.2] 29 (0, 0)), ?_, ⟨HI2.out, HKB.out⟩, ?_⟩
          · exact ownFrom_grew (β := Unit) fun _ _ _ hg ⟨h1, h4⟩ => ⟨h1.grew hg (by omega), hg.at h4⟩
          clear hU1b HI2 HKB
          rintro Wb _ ⟨bi, bk⟩
          have f1 := (cells_at bi.i.cc).1 0
          have f2 := (cells_at bi.nn).1 0
          have f3 := (cells_at bi.nn).2 0
          have e0 := (cells_at bi.ll).1 0
          have e1 := (cells_at bi.ll).1 1
          have e2 := (cells_at bi.ll).1 2
          have e3 := (cells_at bi.ll).2 0
          have e4 := (cells_at bi.ll).2 1
          have e5 := (cells_at bi.ll).2 2
          have g0 := (cells_at bk).1 0
          have g1 := (cells_at bk).1 1
          have g2 := (cells_at bk).1 2
          have s0 := (cells_at bi.i.o.fs).1 0
          have BI := Lib.hid bi
          have BK := Lib.hid bk
          clear bi bk
          by_cases h0 : n = 0
          · skip
            have BIX := Lib.hid BI.out
            have hn0 : decide (0 < n) = false := by simp [h0]
            have H0 := Lib.hid h0
            clear h0
            gi_wp2_with fail
            refine ⟨trivial, ?_⟩
            gi_wp2_with fail
            have hU3 : Upd (One (bn + 1)) Wb (((Wb.setCell ⟨bn + 1, 0, none⟩ (.int .i64 x.1.1)).setCell ⟨bn + 1, 1, none⟩ (.int .i64 x.1.2.1)).setCell ⟨bn + 1, 2, none⟩ (.int .i64 x.1.2.2)) :=
              (((Upd.refl (One (bn + 1)) Wb).setCell (p := ⟨bn + 1, 0, none⟩) (.inr rfl) _).setCell (p := ⟨bn + 1, 1, none⟩) (.inr rfl) _).setCell (p := ⟨bn + 1, 2, none⟩) (.inr rfl) _
            have hi3 := BIX.out.i.upd hU3 (BIX.out.i.o.t1.upd hU3 (by show ¬ b1 = bn + 1; omega)) (fun k hk => by rw [show k = bn + 1 from hk]; omega)
            have hn3 := hU3.at BIX.out.nn (by show ¬ bn = bn + 1; omega)
            have hl3 : (((Wb.setCell ⟨bn + 1, 0, none⟩ (.int .i64 x.1.1)).setCell ⟨bn + 1, 1, none⟩ (.int .i64 x.1.2.1)).setCell ⟨bn + 1, 2, none⟩ (.int .i64 x.1.2.2)).heap[bn + 1]? = some (.cells #[.int .i64 x.1.1, .int .i64 x.1.2.1, .int .i64 x.1.2.2] 29 (0, 0)) := block_set (block_set (block_set BIX.out.ll _) _) _
            generalize (((Wb.setCell ⟨bn + 1, 0, none⟩ (.int .i64 x.1.1)).setCell ⟨bn + 1, 1, none⟩ (.int .i64 x.1.2.1)).setCell ⟨bn + 1, 2, none⟩ (.int .i64 x.1.2.2)) = W4 at *
            refine ⟨trivial, (to_round (drop_calls b1 64 (x :: post) x.1 _ hi3.o.t1)).mono ?_⟩
            rintro e W5 ⟨rfl, hU5, hT5⟩
            rw [drop_head HSX.out] at hT5
            have hi5 := hi3.upd hU5 hT5 (fun k hk => by rw [show k = b1 from hk]; omega)
            have hn5 := hU5.at hn3 (by show ¬ bn = b1; omega)
            have hl5 := hU5.at hl3 (by show ¬ bn + 1 = b1; omega)
            have hUall : Upd (fun k => k = bn ∨ k = bn + 1 ∨ k = b1) Wb W5 := (hU3.mono (fun k _ h => .inr (.inl h))).trans (hU5.mono (fun k _ h => .inr (.inr h)))
            have HI5 := Lib.hid hi5
            have HN5 := Lib.hid hn5
            have HL5' := Lib.hid hl5
            have HUA := Lib.hid hUall
            have HB0 := Lib.hid BI.out
            have n0 := (cells_at hn5).1 0
            have n1 := (cells_at hn5).2 0
            have s5 := (cells_at hi5.o.fs).1 0
            have hkf : ∀ v, Upd (fun k => k = bn ∨ k = bn + 1 ∨ k = b1) Wb (W5.setCell ⟨bn, 0, none⟩ v) := fun v => hUall.setCell (p := ⟨bn, 0, none⟩) (.inr (.inl rfl)) v
            have HKF := Lib.hid hkf
            clear hU3 hi3 hn3 hl3 hU5 hT5 hi5 hn5 hl5 hUall hkf f1 f2 f3 e0 e1 e2 e3 e4 e5 g0 g1 g2 s0
            have fin : ∀ W6, W6 = W5.setCell ⟨bn, 0, none⟩ (.int .i64 ((n : Int) + 1)) → KeepsFrom w5.heap.size Wb W6 ∧ Keeps slotKeep Wb W6 ∧ OL w r b1 c bn (bn + 1) ka kb kc st post (n + 1) x.1 W6 := by
              rintro W6 rfl
              obtain ⟨S2, hS2, _⟩ := HB0.out.i.o.t1
              refine ⟨(HKF.out _).keepsFrom ?_, (HKF.out _).keeps ?_, ?_⟩
              · rintro k o (rfl | rfl | rfl) hB ho
                · rw [HB0.out.nn] at ho; cases ho; rfl
                · rw [HB0.out.ll] at ho; cases ho; rfl
                · rw [hS2] at ho; cases ho; rfl
              · rintro k o (rfl | rfl | rfl) ho ⟨cc, m, rfl⟩
                · rw [HB0.out.nn] at ho; simp at ho
                · rw [HB0.out.ll] at ho; simp at ho
                · rw [hS2] at ho; simp at ho
              · have hU6 : Upd (One bn) W5 (W5.setCell ⟨bn, 0, none⟩ (.int .i64 ((n : Int) + 1))) := (Upd.refl (One bn) W5).setCell (p := ⟨bn, 0, none⟩) (.inr rfl) _
                exact ⟨HI5.out.upd hU6 (HI5.out.o.t1.upd hU6 (by show ¬ b1 = bn; omega)) (fun k hk => by rw [show k = bn from hk]; omega), block_set HN5.out _, hU6.at HL5'.out (by show ¬ bn + 1 = bn; omega)⟩
            have FIN := Lib.hid fin
            clear fin
            by_cases hle : n + 1 ≤ st
            · have hle1 : (n : Int) + 1 ≤ (st : Int) := by omega
              gi_wp2_with fail
              obtain ⟨q1', q2', q3'⟩ := FIN.out _ rfl
              refine ⟨q1', q2', ?_, ?_⟩
              · rw [List.length_append, List.length_singleton, ← HN.out, HD2.out, HLP.out]; exact q3'
              · rw [List.length_append, List.length_singleton, ← HN.out]; exact hle
            · have hle1 : (st : Int) < (n : Int) + 1 := by omega
              gi_wp2_with fail
              obtain ⟨q1', q2', q3'⟩ := FIN.out _ rfl
              refine ⟨q1', rfl, ?_, ?_⟩
              · rw [List.length_append, List.length_singleton, ← HN.out, HD2.out, HLP.out]; exact q3'
              · rw [List.length_append, List.length_singleton, ← HN.out]; omega
          · skip
            have hn0 : decide (0 < n) = true := by simp; omega
            have hbf : ∀ W, Calls Try.prog 15 #[.agg #[.int .i64 (lastOf pre).1, .int .i64 (lastOf pre).2.1, .int .i64 (lastOf pre).2.2], .agg #[.int .i64 x.1.1, .int .i64 x.1.2.1, .int .i64 x.1.2.2]] W fun e w' => e = .returned (.bool true) ∧ Upd No W w' := fun W => by
              rw [← HLA.out h0]; exact before_calls _ _ W
            have HBF := Lib.hid hbf
            clear h0 hbf
            gi_wp2_with fail
            refine ⟨trivial, (to_round (HBF.out _)).mono ?_⟩
            rintro e Wx ⟨rfl, hUx⟩
            have BIX := Lib.hid (BI.out.no hUx)
            have BKX := Lib.hid (hUx.at BK.out (fun h => h))
            have f1 := (cells_at BIX.out.i.cc).1 0
            have f2 := (cells_at BIX.out.nn).1 0
            have f3 := (cells_at BIX.out.nn).2 0
            have e3 := (cells_at BIX.out.ll).2 0
            have e4 := (cells_at BIX.out.ll).2 1
            have e5 := (cells_at BIX.out.ll).2 2
            have e0 := (cells_at BIX.out.ll).1 0
            have e1 := (cells_at BIX.out.ll).1 1
            have e2 := (cells_at BIX.out.ll).1 2
            have g0 := (cells_at BKX.out).1 0
            have g1 := (cells_at BKX.out).1 1
            have g2 := (cells_at BKX.out).1 2
            have s0 := (cells_at BIX.out.i.o.fs).1 0
            gi_wp2_with fail
            have hU3 : Upd (One (bn + 1)) Wx (((Wx.setCell ⟨bn + 1, 0, none⟩ (.int .i64 x.1.1)).setCell ⟨bn + 1, 1, none⟩ (.int .i64 x.1.2.1)).setCell ⟨bn + 1, 2, none⟩ (.int .i64 x.1.2.2)) :=
              (((Upd.refl (One (bn + 1)) Wx).setCell (p := ⟨bn + 1, 0, none⟩) (.inr rfl) _).setCell (p := ⟨bn + 1, 1, none⟩) (.inr rfl) _).setCell (p := ⟨bn + 1, 2, none⟩) (.inr rfl) _
            have hi3 := BIX.out.i.upd hU3 (BIX.out.i.o.t1.upd hU3 (by show ¬ b1 = bn + 1; omega)) (fun k hk => by rw [show k = bn + 1 from hk]; omega)
            have hn3 := hU3.at BIX.out.nn (by show ¬ bn = bn + 1; omega)
            have hl3 : (((Wx.setCell ⟨bn + 1, 0, none⟩ (.int .i64 x.1.1)).setCell ⟨bn + 1, 1, none⟩ (.int .i64 x.1.2.1)).setCell ⟨bn + 1, 2, none⟩ (.int .i64 x.1.2.2)).heap[bn + 1]? = some (.cells #[.int .i64 x.1.1, .int .i64 x.1.2.1, .int .i64 x.1.2.2] 29 (0, 0)) := block_set (block_set (block_set BIX.out.ll _) _) _
            generalize (((Wx.setCell ⟨bn + 1, 0, none⟩ (.int .i64 x.1.1)).setCell ⟨bn + 1, 1, none⟩ (.int .i64 x.1.2.1)).setCell ⟨bn + 1, 2, none⟩ (.int .i64 x.1.2.2)) = W4 at *
            refine ⟨trivial, (to_round (drop_calls b1 64 (x :: post) x.1 _ hi3.o.t1)).mono ?_⟩
            rintro e W5 ⟨rfl, hU5, hT5⟩
            rw [drop_head HSX.out] at hT5
            have hi5 := hi3.upd hU5 hT5 (fun k hk => by rw [show k = b1 from hk]; omega)
            have hn5 := hU5.at hn3 (by show ¬ bn = b1; omega)
            have hl5 := hU5.at hl3 (by show ¬ bn + 1 = b1; omega)
            have hUall : Upd (fun k => k = bn ∨ k = bn + 1 ∨ k = b1) Wb W5 := (hUx.no.trans (hU3.mono (fun k _ h => .inr (.inl h)))).trans (hU5.mono (fun k _ h => .inr (.inr h)))
            have HI5 := Lib.hid hi5
            have HN5 := Lib.hid hn5
            have HL5' := Lib.hid hl5
            have HUA := Lib.hid hUall
            have HB0 := Lib.hid BI.out
            have n0 := (cells_at hn5).1 0
            have n1 := (cells_at hn5).2 0
            have s5 := (cells_at hi5.o.fs).1 0
            have hkf : ∀ v, Upd (fun k => k = bn ∨ k = bn + 1 ∨ k = b1) Wb (W5.setCell ⟨bn, 0, none⟩ v) := fun v => hUall.setCell (p := ⟨bn, 0, none⟩) (.inr (.inl rfl)) v
            have HKF := Lib.hid hkf
            clear hU3 hi3 hn3 hl3 hU5 hT5 hi5 hn5 hl5 hUall hkf f1 f2 f3 e0 e1 e2 e3 e4 e5 g0 g1 g2 s0
            have fin : ∀ W6, W6 = W5.setCell ⟨bn, 0, none⟩ (.int .i64 ((n : Int) + 1)) → KeepsFrom w5.heap.size Wb W6 ∧ Keeps slotKeep Wb W6 ∧ OL w r b1 c bn (bn + 1) ka kb kc st post (n + 1) x.1 W6 := by
              rintro W6 rfl
              obtain ⟨S2, hS2, _⟩ := HB0.out.i.o.t1
              refine ⟨(HKF.out _).keepsFrom ?_, (HKF.out _).keeps ?_, ?_⟩
              · rintro k o (rfl | rfl | rfl) hB ho
                · rw [HB0.out.nn] at ho; cases ho; rfl
                · rw [HB0.out.ll] at ho; cases ho; rfl
                · rw [hS2] at ho; cases ho; rfl
              · rintro k o (rfl | rfl | rfl) ho ⟨cc, m, rfl⟩
                · rw [HB0.out.nn] at ho; simp at ho
                · rw [HB0.out.ll] at ho; simp at ho
                · rw [hS2] at ho; simp at ho
              · have hU6 : Upd (One bn) W5 (W5.setCell ⟨bn, 0, none⟩ (.int .i64 ((n : Int) + 1))) := (Upd.refl (One bn) W5).setCell (p := ⟨bn, 0, none⟩) (.inr rfl) _
                exact ⟨HI5.out.upd hU6 (HI5.out.o.t1.upd hU6 (by show ¬ b1 = bn; omega)) (fun k hk => by rw [show k = bn from hk]; omega), block_set HN5.out _, hU6.at HL5'.out (by show ¬ bn + 1 = bn; omega)⟩
            have FIN := Lib.hid fin
            clear fin
            by_cases hle : n + 1 ≤ st
            · have hle1 : (n : Int) + 1 ≤ (st : Int) := by omega
              gi_wp2_with fail
              obtain ⟨q1', q2', q3'⟩ := FIN.out _ rfl
              refine ⟨q1', q2', ?_, ?_⟩
              · rw [List.length_append, List.length_singleton, ← HN.out, HD2.out, HLP.out]; exact q3'
              · rw [List.length_append, List.length_singleton, ← HN.out]; exact hle
            · have hle1 : (st : Int) < (n : Int) + 1 := by omega
              gi_wp2_with fail
              obtain ⟨q1', q2', q3'⟩ := FIN.out _ rfl
              refine ⟨q1', rfl, ?_, ?_⟩
              · rw [List.length_append, List.length_singleton, ← HN.out, HD2.out, HLP.out]; exact q3'
              · rw [List.length_append, List.length_singleton, ← HN.out]; omega
        case done =>
          rintro D W hD ⟨hol, hst2⟩ hK
          exact tail D W ⟨_, _, hD, hol, Nat.le_refl _, by omega, hK⟩
        case stop =>
          rintro D cd pre W hD hpre ⟨rfl, hol, hlen⟩ hK
          have hpl := hpre.length_le
          exact wp_exit (tail D W ⟨_, _, hD, hol, hpl, by omega, hK⟩)
      rintro D W ⟨N, kl, hD, hol, hNle, hN2, hK⟩
      have HOL := Lib.hid hol
      have HK := Lib.hid hK
      have hDw := heap_lt hK
      have z0 := (cells_at hol.i.cc).1 0
      have z1 := (cells_at hol.nn).1 0
      have z2 := (cells_at hol.i.o.fs).1 0
      have hlen : ((M.drop N).length : Int) = (M.length : Int) - (N : Int) := by rw [List.length_drop]; omega
      have t1 : ((N : Int) != min (M.length : Int) ((st : Int) + 1)) = false := by rw [← hN2]; simp
      have t2 : IntKind.i64.wrap (st : Int) = (st : Int) := IntWalk.i64_in _ (by omega)
      have t3 : IntKind.i64.wrap ((st : Int) + 1) = (st : Int) + 1 := IntWalk.i64_in _ (by omega)
      have t4 : IntKind.i64.wrap ((M.length : Int) - (N : Int)) = (M.length : Int) - (N : Int) := IntWalk.i64_in _ (by omega)
      have HN2 := Lib.hid hN2
      have hlc : ∀ W, TabIs W b1 64 (M.drop N) → Calls Try.prog 14 #[.pointer (some ⟨b1, 0, none⟩)] W fun e w' => e = .returned (.int .i64 ((M.length : Int) - (N : Int))) ∧ W = w' := fun W h => by rw [← hlen]; exact len_calls _ _ _ _ h
      have HLC := Lib.hid hlc
      clear hol hK hlen hlc hN2
      go_wp2
      refine wp_region_still_lit (by kernel_rfl) (by kernel_rfl) ?_
      repeat still_step
      still_call ((HLC.out W.drew HOL.out.i.o.t1).mono fun e w' h => ⟨h.1, h.2.symm⟩)
      repeat still_step
      refine wpStill_nil ?_
      obtain ⟨W2, hW2⟩ : ∃ W2, W2 = W.drew := ⟨_, rfl⟩
      rw [show ({ heap := W.heap, tape := W.tape, drawn := W.drawn + 1, os := W.os, output := W.output } : World) = W2 from hW2.symm]
      have HOL2 := Lib.hid (show OL w r b1 c bn (bn + 1) ka kb kc st (M.drop N) N kl W2 from by rw [hW2]; exact HOL.out.no ((Upd.refl No W).drew))
      have HK2 := Lib.hid (show W2.heap[D]? = some (.deferred (some [])) from by rw [hW2]; exact HK.out)
      clear hW2 t1 t2 t3 t4 z0 z1 z2 HOL HK
      have a0 := (cells_at HOL2.out.i.o.fa).1 0
      have a1 := (cells_at HOL2.out.i.o.fa).1 1
      have a2 := (cells_at HOL2.out.i.o.fa).1 2
      have b0 := (cells_at HOL2.out.i.o.fb).1 0
      have b1' := (cells_at HOL2.out.i.o.fb).1 1
      have b2 := (cells_at HOL2.out.i.o.fb).1 2
      obtain ⟨bab, hbab⟩ : ∃ x, x = before ka kb := ⟨_, rfl⟩
      obtain ⟨bba, hbba⟩ : ∃ x, x = before kb ka := ⟨_, rfl⟩
      have hab : ∀ W, Calls Try.prog 15 #[.agg #[.int .i64 ka.1, .int .i64 ka.2.1, .int .i64 ka.2.2], .agg #[.int .i64 kb.1, .int .i64 kb.2.1, .int .i64 kb.2.2]] W fun e w' => e = .returned (.bool bab) ∧ Upd No W w' := fun W => by rw [hbab]; exact before_calls _ _ W
      have hba : ∀ W, Calls Try.prog 15 #[.agg #[.int .i64 kb.1, .int .i64 kb.2.1, .int .i64 kb.2.2], .agg #[.int .i64 ka.1, .int .i64 ka.2.1, .int .i64 ka.2.2]] W fun e w' => e = .returned (.bool bba) ∧ Upd No W w' := fun W => by rw [hbba]; exact before_calls _ _ W
      have heq := run_eql_key ka kb
      have hU0 : Upd No W2 W2 := Upd.refl _ _
      have hcase : (bab = true ∧ bba = false ∧ decide (ka = kb) = false) ∨ (bab = false ∧ bba = true ∧ decide (ka = kb) = false) ∨ (bab = false ∧ bba = false ∧ decide (ka = kb) = true) := by
        by_cases hk : ka = kb
        · subst hk; right; right; rw [hbab, hbba]; exact ⟨before_irrefl _, before_irrefl _, by simp⟩
        · rcases before_total hk with h | h
          · left; rw [hbab, hbba]; exact ⟨h, before_asymm h, by simp [hk]⟩
          · right; left; rw [hbab, hbba]; exact ⟨before_asymm h, h, by simp [hk]⟩
      have CE : Hid (∀ W', Upd No W2 W' → W'.cell? ⟨r, 0, none⟩ = some (.int .i64 ka.1) ∧ W'.cell? ⟨r, 1, none⟩ = some (.int .i64 ka.2.1) ∧ W'.cell? ⟨r, 2, none⟩ = some (.int .i64 ka.2.2) ∧ W'.cell? ⟨r + 1, 0, none⟩ = some (.int .i64 kb.1) ∧ W'.cell? ⟨r + 1, 1, none⟩ = some (.int .i64 kb.2.1) ∧ W'.cell? ⟨r + 1, 2, none⟩ = some (.int .i64 kb.2.2)) := Lib.hid fun W' h => by
        have q1 := (cells_at (HOL2.out.no h).i.o.fa).1
        have q2 := (cells_at (HOL2.out.no h).i.o.fb).1
        exact ⟨q1 0, q1 1, q1 2, q2 0, q2 1, q2 2⟩
      have HAB := Lib.hid hab
      have HBA := Lib.hid hba
      have HBAB := Lib.hid hbab
      clear hab hba hbba hbab
      rcases hcase with ⟨rfl, rfl, he⟩ | ⟨rfl, rfl, he⟩ | ⟨rfl, rfl, he⟩
      all_goals
        rw [he] at heq
        clear he
        go_wp2
        have r0 : ∀ X : Later W2, X.w.cell? ⟨r, 0, none⟩ = some (.int .i64 ka.1) := fun X => (CE.out _ X.u).1
        have r1 : ∀ X : Later W2, X.w.cell? ⟨r, 1, none⟩ = some (.int .i64 ka.2.1) := fun X => (CE.out _ X.u).2.1
        have r2 : ∀ X : Later W2, X.w.cell? ⟨r, 2, none⟩ = some (.int .i64 ka.2.2) := fun X => (CE.out _ X.u).2.2.1
        have r3 : ∀ X : Later W2, X.w.cell? ⟨r + 1, 0, none⟩ = some (.int .i64 kb.1) := fun X => (CE.out _ X.u).2.2.2.1
        have r4 : ∀ X : Later W2, X.w.cell? ⟨r + 1, 1, none⟩ = some (.int .i64 kb.2.1) := fun X => (CE.out _ X.u).2.2.2.2.1
        have r5 : ∀ X : Later W2, X.w.cell? ⟨r + 1, 2, none⟩ = some (.int .i64 kb.2.2) := fun X => (CE.out _ X.u).2.2.2.2.2
        refine wp_region_upd W2 (by kernel_rfl) (by kernel_rfl) (Upd.refl No W2) ?_
        repeat (quiet_step ((go_at_call 15; first | exact quiet_upd (HAB.out _) | exact quiet_upd (HBA.out _))))
        refine wpQuiet_nil ?_
        rintro W3 ⟨⟨_, hU3⟩, rfl⟩
        have HOL3 := Lib.hid (HOL2.out.no hU3)
        have HK3 := Lib.hid (hU3.at HK2.out (fun h => h))
        rename_i W3 _
        clear a0 a1 a2 b0 b1' b2 r0 r1 r2 r3 r4 r5 CE HAB HBA heq hU0 hU3
        have CF : Hid (∀ W', Upd No W3 W' → W'.cell? ⟨r, 0, none⟩ = some (.int .i64 ka.1) ∧ W'.cell? ⟨r, 1, none⟩ = some (.int .i64 ka.2.1) ∧ W'.cell? ⟨r, 2, none⟩ = some (.int .i64 ka.2.2) ∧ W'.cell? ⟨r + 1, 0, none⟩ = some (.int .i64 kb.1) ∧ W'.cell? ⟨r + 1, 1, none⟩ = some (.int .i64 kb.2.1) ∧ W'.cell? ⟨r + 1, 2, none⟩ = some (.int .i64 kb.2.2) ∧ W'.cell? ⟨r + 1 + 1, 0, none⟩ = some (.int .i64 kc.1) ∧ W'.cell? ⟨r + 1 + 1, 1, none⟩ = some (.int .i64 kc.2.1) ∧ W'.cell? ⟨r + 1 + 1, 2, none⟩ = some (.int .i64 kc.2.2) ∧ W'.cell? ⟨r + 1 + 1 + 1 + 1, 0, none⟩ = some (.bool false) ∧ W'.frozen? ⟨r + 1 + 1 + 1 + 1, 0, none⟩ = false) := Lib.hid fun W' h => by
          have q1 := (cells_at (HOL3.out.no h).i.o.fa).1
          have q2 := (cells_at (HOL3.out.no h).i.o.fb).1
          have q3 := (cells_at (HOL3.out.no h).i.o.fc).1
          have q4 := (cells_at (HOL3.out.no h).i.o.fr)
          exact ⟨q1 0, q1 1, q1 2, q2 0, q2 1, q2 2, q3 0, q3 1, q3 2, q4.1 0, q4.2 0⟩
        have FIN : Hid (∀ W4, Upd No W3 W4 → ∀ (tmps : Array Value), tmps[10]?.getD undef = .pointer (some ⟨r + 1 + 1 + 1 + 1, 0, none⟩) → LeavesInM Fence.wide 9 Try.prog Try.f4 tmps (fun e w' => e = .returned (.bool true) ∧ Upd No w w') [{ target := .collected D, args := #[] }] .returning (W4.setCell ⟨r + 1 + 1 + 1 + 1, 0, none⟩ (.bool true))) := Lib.hid fun W4 h tmps ht => by
          refine fin_marks (B := w5.heap.size) tmps [D] _ (by simp) (by simp; exact ⟨hD, block_other (h.at HK3.out (fun h => h)) (by show D ≠ r + 1 + 1 + 1 + 1; omega) _⟩) (fun W' hW' => ⟨_, order_res tmps W' (r + 1 + 1 + 1 + 1) true ht (hW'.cell ((cells_at (block_set (HOL3.out.no h).i.o.fr (.bool true))).1 0)), rfl, hW'.upd ((HOL3.out.no h).i.o.up.setCell (.inl (by show w.heap.size ≤ r + 1 + 1 + 1 + 1; omega)) _) (by omega)⟩)
      · obtain ⟨p0, p1, p2, p3, p4, p5, p6, p7, p8, p9, p10⟩ := CF.out _ (Upd.refl No W3)
        go_wp2_with fail
        refine (before_calls ka kb _).mono ?_
        rw [← HBAB.out]
        rintro e W4 ⟨rfl, hU4⟩
        clear p0 p1 p2 p3 p4 p5 p6 p7 p8 p9 p10
        obtain ⟨p0, p1, p2, p3, p4, p5, p6, p7, p8, p9, p10⟩ := CF.out _ hU4
        go_wp2_with fail
        refine (before_calls kb kc _).mono ?_
        rintro e W5 ⟨rfl, hU5'⟩
        have hU5 := hU4.trans hU5'
        clear hU4 hU5' p0 p1 p2 p3 p4 p5 p6 p7 p8 p9 p10
        obtain ⟨p0, p1, p2, p3, p4, p5, p6, p7, p8, p9, p10⟩ := CF.out _ hU5
        cases hbc2 : before kb kc
        · go_wp2_with fail
          exact FIN.out _ hU5 _ rfl
        · go_wp2_with fail
          refine (before_calls ka kc _).mono ?_
          rw [before_trans HBAB.out.symm hbc2]
          rintro e W6 ⟨rfl, hU6'⟩
          have hU6 := hU5.trans hU6'
          clear hU5 hU6' p0 p1 p2 p3 p4 p5 p6 p7 p8 p9 p10
          obtain ⟨p0, p1, p2, p3, p4, p5, p6, p7, p8, p9, p10⟩ := CF.out _ hU6
          go_wp2_with fail
          exact FIN.out _ hU6 _ rfl
      all_goals
        obtain ⟨p0, p1, p2, p3, p4, p5, p6, p7, p8, p9, p10⟩ := CF.out _ (Upd.refl No W3)
        go_wp2_with fail
        refine (before_calls ka kb _).mono ?_
        rw [← HBAB.out]
        rintro e W4 ⟨rfl, hU4⟩
        clear p0 p1 p2 p3 p4 p5 p6 p7 p8 p9 p10
        obtain ⟨p0, p1, p2, p3, p4, p5, p6, p7, p8, p9, p10⟩ := CF.out _ hU4
        go_wp2_with fail
        exact FIN.out _ hU4 _ rfl
end Go.Proofs.Ytoondlbagbgbmaa
