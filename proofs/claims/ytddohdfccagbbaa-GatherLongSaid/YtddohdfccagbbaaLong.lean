/- The statement GatherLong: parts without an end are dropped as soon as they are too many, all up to the next end are skipped; then a frame is told whole. -/
import Derived.Test.YtddohdfccagbbaaRows
import Derived.Test.YtddohdfccagbbaaBase
import Derived.Test.YtddohdfccagbbaaBytes
import Derived.Test.YtddohdfccagbbaaFrame
import Derived.Test.YtddohdfccagbbaaCells
import Derived.Test.YtddohdfccagbbaaGather
import Derived.Test.YtddohdfccagbbaaTake
import Derived.Test.YtddohdfccagbbaaGPure
import Derived.Test.YtddohdfccagbbaaAwake11
import Derived.Test.YtddohdfccagbbaaSame
import Derived.Test.YtddohdfccagbbaaMem
namespace Go.Proofs.Ytddohdfccagbbaa.Long
open Go.RowKit Go.Shelf
attribute [local go_sem] Oper.semAt_some


theorem chunk_last (F : List UInt8) (P i : Nat) (hF : F.length = 48 * P) (hi : i < P) : (chunk F i).2 = decide (i + 1 = P) := by
  unfold chunk
  rw [Bool.eq_iff_iff, beq_iff_eq, decide_eq_true_eq]
  omega
/-- The same part, k times. -/
def reps (p : List UInt8) (k : Nat) : List UInt8 := (List.replicate k p).flatten
theorem reps_len (p : List UInt8) (hp : p.length = 48) (k : Nat) : (reps p k).length = 48 * k := by
  rw [reps, List.length_flatten, List.map_replicate, List.sum_replicate_nat, hp]
  omega
theorem reps_succ (p : List UInt8) (k : Nat) : reps p k ++ p = reps p (k + 1) := by
  rw [reps, reps, List.replicate_succ', List.flatten_append]
  simp
def gl (p : List UInt8) (k : Nat) : GS := if k < 21 then ⟨1000, 0, 0, reps p k, false⟩ else ⟨1000, 0, 1, [], true⟩
theorem gl_zero (p : List UInt8) : gl p 0 = GS.new 1000 := by simp [gl, GS.new, reps]
theorem gl_step (p : List UInt8) (hp : p.length = 48) (k : Nat) (hk : k < 21) : (gl p k).take 0 p false = (gl p (k + 1), [], 0, if k = 20 then 6 else 2) := by
  have hd : (⟨1000, 0, 0, reps p k, false⟩ : GS).due 0 = false := by simp [GS.due]
  have hl := reps_len p hp (k + 1)
  rw [gl, if_pos hk]
  simp only [GS.take, GS.tick, hd, Bool.false_eq_true, if_false, GS.add, reps_succ, ite_self]
  by_cases h : k = 20
  · subst h
    rw [if_neg (by rw [hl]; decide), gl, if_neg (by decide)]
    rfl
  · rw [if_pos (by rw [hl]; omega), if_neg h, gl, if_pos (by omega)]
theorem gl_skip (p : List UInt8) (l : Bool) : (⟨1000, 0, 1, [], true⟩ : GS).take 0 p l = (⟨1000, 0, 1, [], !l⟩, [], 0, 2) := by
  simp [GS.take, GS.tick, GS.due]
theorem long_calls (g : Nat) (p : List UInt8) (hp : p.length = 48) (k : Nat) (hk : k < 21) (w : World) (h : Gath w g (gl p k)) :
    Calls Try.prog 11 #[.pointer (some ⟨g, 0, none⟩), .int .i64 0, arrV p, .bool false] w fun e w' => e = .returned (.tuple #[.slice none 0 0, .int .u8 0, .int .i64 (if k = 20 then 6 else 2)]) ∧ Gath w' g (gl p (k + 1)) ∧ Upd (One g) w w' := by
  have h2 := take_calls g _ 0 (by decide) p hp false w h (by rw [gl, if_pos hk]; simp) (by rw [gl, if_pos hk]; simp only [reps_len p hp]; omega)
  rw [gl_step p hp k hk] at h2
  refine h2.mono ?_
  rintro e w' ⟨v, he, hv, _, hg, hU⟩
  refine ⟨?_, hg, hU⟩
  rw [he, hv (by simp only; split <;> decide)]
  by_cases h : k = 20
  · simp only [if_pos h]; rfl
  · simp only [if_neg h]; rfl
theorem skip_calls (g : Nat) (p : List UInt8) (hp : p.length = 48) (l : Bool) (w : World) (h : Gath w g ⟨1000, 0, 1, [], true⟩) :
    Calls Try.prog 11 #[.pointer (some ⟨g, 0, none⟩), .int .i64 0, arrV p, .bool l] w fun e w' => e = .returned (.tuple #[.slice none 0 0, .int .u8 0, .int .i64 2]) ∧ Gath w' g ⟨1000, 0, 1, [], !l⟩ ∧ Upd (One g) w w' := by
  have h2 := take_calls g _ 0 (by decide) p hp l w h (by decide) (by decide)
  rw [gl_skip] at h2
  refine h2.mono ?_
  rintro e w' ⟨v, he, hv, _, hg, hU⟩
  exact ⟨by rw [he, hv (by simp)]; rfl, hg, hU⟩

/-- The Gatherer after the first i parts of the frame. -/
def st2 (Q : List UInt8) (R i : Nat) : GS := if i < R then fed 1000 1 0 Q i 0 else ⟨1000, 0, 1, [], false⟩
theorem st2_zero (Q : List UInt8) (R : Nat) (h : 1 ≤ R) : st2 Q R 0 = ⟨1000, 0, 1, [], false⟩ := by rw [st2, if_pos (by omega)]; simp [fed]
theorem step2_calls (g R i : Nat) (Q lb : List UInt8) (hQ : Q.length = 48 * R) (hR : R ≤ 21) (hi : i < R) (hun : unpackOf Q = (lb, 2, 0)) (w : World) (h : Gath w g (st2 Q R i)) :
    Calls Try.prog 11 #[.pointer (some ⟨g, 0, none⟩), .int .i64 0, arrV (chunk Q i).1, .bool (chunk Q i).2] w fun e w' => ∃ (v : Value) (m : UInt8) (err : Nat), e = .returned (.tuple #[v, byteV m, .int .i64 (err : Int)]) ∧ Gath w' g (st2 Q R (i + 1)) ∧ Upd (One g) w w' ∧ ((chunk Q i).2 = true → Bytes w' v lb ∧ m = 2 ∧ err = 0) := by
  have hq : Q.length / 48 = R := by omega
  unfold st2 at h ⊢
  rw [if_pos hi] at h
  by_cases hl : i + 1 = R
  · have hc : (chunk Q i).2 = true := by rw [chunk_last Q R i hQ hi]; simpa using hl
    rw [hc, if_neg (by omega)]
    refine (last_calls g 1000 1 0 Q i 0 (by decide) (by decide) (by omega) (by omega) (by omega) hc (by decide) w h).mono ?_
    rintro e w' ⟨v, he, _, ho, hg, hU⟩
    rw [hun] at he ho hg
    exact ⟨v, 2, 0, he, hg, hU, fun _ => ⟨ho.bytes, rfl, rfl⟩⟩
  · have hc : (chunk Q i).2 = false := by rw [chunk_last Q R i hQ hi]; simpa using hl
    rw [hc, if_pos (by omega)]
    exact (more_calls g 1000 1 0 Q i 0 (by decide) (by decide) (by omega) (by omega) (by omega) hc (by decide) w h).mono fun e w' ⟨he, hg, hU⟩ => ⟨_, 0, 2, he, hg, hU, fun h => Bool.noConfusion h⟩

/-! ### A Gatherer that is nil -/
theorem nil_take (p : List UInt8) (w : World) :
    Calls Try.prog 11 #[.pointer none, .int .i64 0, arrV p, .bool true] w fun e w' => e = .returned (.tuple #[.slice none 0 0, .int .u8 0, .int .i64 2]) ∧ Upd No w w' := by
  unfold arrV
  go_enter Try.func11, Try.ntmps11
  go_wp2
  go_ret3
  exact ⟨rfl, (Upd.refl _ _).alloc _⟩
theorem nil_tick (w : World) :
    Calls Try.prog 13 #[.pointer none, .int .i64 0] w fun e w' => e = .returned (.bool false) ∧ Upd No w w' := by
  go_enter Try.func13, Try.ntmps13
  go_wp2
  go_quiet (fail)
  go_wp2
  go_ret
  exact ⟨rfl, (Upd.refl _ _).drewN _⟩
theorem nil_parts (w : World) : Calls Try.prog 12 #[.pointer none] w fun e w' => e = .returned (.int .i64 0) ∧ w' = w := by
  go_enter Try.func12, Try.ntmps12
  go_wp2
  go_ret
  exact ⟨rfl, rfl⟩
theorem nil_lost (w : World) : Calls Try.prog 15 #[.pointer none] w fun e w' => e = .returned (.int .i64 0) ∧ w' = w := by
  go_enter Try.func15, Try.ntmps15
  go_wp2
  go_ret
  exact ⟨rfl, rfl⟩

/-- The guard's way out. -/
theorem early (p : List UInt8) (a1 : Option Addr) (n1 c1 : Nat) (k : Int) (w : World) (h : 1000 < n1 ∨ n1 = 0) :
    Calls Try.prog 5 #[arrV p, .int .u8 k, .slice a1 n1 c1] w fun e w' => e = .returned (.bool true) ∧ Upd No w w' := by
  by_cases g2 : 1000 < n1
  case' pos => have q2 : decide (1000 < (n1 : Int)) = true := by simpa using (by omega)
  case' neg =>
    have q2 : decide (1000 < (n1 : Int)) = false := by simpa using (by omega)
    have q4 : ((n1 : Int) == 0) = true := by rw [beq_iff_eq]; omega
  all_goals
    clear h
    unfold arrV
    obtain ⟨X, hX⟩ : ∃ X, X = w.alloc (.cells (rowOf p) 33) := ⟨_, rfl⟩
    have hXs : X.heap.size = w.heap.size + 1 := by rw [hX]; simp
    have hUX : Upd No w X := by rw [hX]; exact (Upd.refl _ _).alloc _
    have b1 := block_old (block_new X (.cells #[.slice a1 n1 c1] 22)) (.cells #[.bool false] 4)
    have b2 := block_new (X.alloc (.cells #[.slice a1 n1 c1] 22)) (.cells #[.bool false] 4)
    have hU0 : Upd No w ((X.alloc (.cells #[.slice a1 n1 c1] 22)).alloc (.cells #[.bool false] 4)) := (hUX.alloc _).alloc _
    rw [World.size_alloc] at b2
    rw [hXs] at b1 b2
    rw [hX] at b1 b2 hU0
    have B1 := Lib.hid b1
    have B2 := Lib.hid b2
    clear b1 b2 hX hXs hUX
    go_enter Try.func5, Try.ntmps5
    go_wp2_with fail
    refine (awake_calls _).mono ?_
    rintro e w1 ⟨rfl, hU1⟩
    have d1 := cells_at (hU1.at B1.out (fun h => h))
    have d2 := cells_at (hU1.at B2.out (fun h => h))
    go_wp2_with fail
    refine (awake_calls _).mono ?_
    rintro e w2 ⟨rfl, hU2⟩
    have d3 := cells_at ((hU1.trans hU2).at B2.out (fun h => h))
    have hlt : w.heap.size + 2 < w2.heap.size := heap_lt ((hU1.trans hU2).at B2.out (fun h => h))
    clear d1 d2
    go_wp2
    refine bodyPost_ret (v := .bool true) (by simp [results, Try.results5, go_sem, d3]) rfl ⟨rfl, ?_⟩
    exact ((hU0.trans hU1).trans hU2).setCell (.inl (by simp; omega)) _

/-- What holds between two rounds of a loop. -/
def Inv (w : World) (bR bB bG bT g : Nat) (pp : List UInt8) (vb vQ : Value) (Q lb : List UInt8) (st : Nat → GS) (D : Option Nat) (pre : List (List UInt8 × Bool)) (W : World) : Prop :=
  W.heap[bR]? = some (.cells #[.bool false] 4 (0, 0)) ∧ W.heap[bB]? = some (.cells #[vb] 22 (0, 0)) ∧ W.heap[bG]? = some (.cells #[.pointer (some ⟨g, 0, none⟩)] 25 (0, 0)) ∧
  W.heap[bT]? = some (.cells (rowOf pp) 33 (0, 0)) ∧ (∀ k, D = some k → W.heap[k]? = some (.deferred (some []))) ∧ Gath W g (st pre.length) ∧ Bytes W vQ Q ∧ Bytes W vb lb ∧ Upd No w W
theorem inv_own {w : World} {B bR bB bG bT g : Nat} {pp : List UInt8} {vb vQ : Value} {Q lb : List UInt8} {st : Nat → GS} {D : Option Nat} (hB : w.heap.size ≤ B) (hD : ∀ k, D = some k → k < B) : OwnFrom B (Inv w bR bB bG bT g pp vb vQ Q lb st D) :=
  (ownFrom_cells _ _ _).and ((ownFrom_cells _ _ _).and ((ownFrom_cells _ _ _).and ((ownFrom_cells _ _ _).and (OwnFrom.and (fun s X Y row hs hg hr k hk => ownFrom_block (hD k hk) (fun _ : Unit => .deferred (some [])) () X Y row (hs k hk) hg hr) ((ownFrom_gath _).and ((ownFrom_bytes _ _).and ((ownFrom_bytes _ _).and (ownFrom_upd hB))))))))
theorem inv_no {w : World} {bR bB bG bT g : Nat} {pp : List UInt8} {vb vQ : Value} {Q lb : List UInt8} {st : Nat → GS} {D : Option Nat} {pre : List (List UInt8 × Bool)} {W W' : World} (h : Inv w bR bB bG bT g pp vb vQ Q lb st D pre W) (hU : Upd No W W') : Inv w bR bB bG bT g pp vb vQ Q lb st D pre W' :=
  ⟨hU.at h.1 (fun h => h), hU.at h.2.1 (fun h => h), hU.at h.2.2.1 (fun h => h), hU.at h.2.2.2.1 (fun h => h), fun k hk => hU.at (h.2.2.2.2.1 k hk) (fun h => h), h.2.2.2.2.2.1.no hU, h.2.2.2.2.2.2.1.no hU, h.2.2.2.2.2.2.2.1.no hU, h.2.2.2.2.2.2.2.2.trans hU⟩
/-- What a step of the Gatherer alone leaves. -/
theorem inv_step {w X Y : World} {bR bB bG bT g : Nat} {pp : List UInt8} {va : Option Addr} {vn vc : Nat} {vQ : Value} {Q lb : List UInt8} {st st' : Nat → GS} {D : Option Nat} {pre pre' : List (List UInt8 × Bool)} (h : Inv w bR bB bG bT g pp (.slice va vn vc) vQ Q lb st D pre X)
    (hU : Upd (One g) X Y) (hg : Gath Y g (st' pre'.length)) (h1 : bR ≠ g ∧ bB ≠ g ∧ bG ≠ g ∧ bT ≠ g) (hq : ∀ k, vQ.ownBlock = some k → k ≠ g) (hD : ∀ k, D = some k → k ≠ g) (hv : ∀ k, (Value.slice va vn vc).ownBlock = some k → k ≠ g) (hw : w.heap.size ≤ g) :
    Inv w bR bB bG bT g pp (.slice va vn vc) vQ Q lb st' D pre' Y := by
  obtain ⟨i1, i2, i3, i4, i5, ig, iq, ib, iU⟩ := h
  obtain ⟨n1, n2, n3, n4⟩ := h1
  exact ⟨hU.at i1 n1, hU.at i2 n2, hU.at i3 n3, hU.at i4 n4, fun k hk => hU.at (i5 k hk) (hD k hk), hg, iq.upd hU hq, ib.upd hU hv, iU.then hU (fun i hi e => by simp [One] at e; omega)⟩

set_option maxRecDepth 100000 in
set_option maxHeartbeats 4000000 in
theorem main (p : List UInt8) (hp : p.length = 48) (vb : Value) (a1 : Option Addr) (c1 : Nat) (lb : List UInt8) (hvb : vb = .slice a1 lb.length c1) (many : Nat) (hmany : many < 256) (w : World) (hbb : Bytes w vb lb) (h3 : 1 ≤ lb.length) (h4 : lb.length ≤ 1000) :
    Calls Try.prog 5 #[arrV p, .int .u8 (many : Int), vb] w fun e w' => e = .returned (.bool true) ∧ Upd No w w' := by
  obtain ⟨Q, hQ⟩ : ∃ Q, Q = frameOf lb 2 := ⟨_, rfl⟩
  obtain ⟨R, hR⟩ : ∃ R, R = partsOf lb.length := ⟨_, rfl⟩
  have hQl : Q.length = 48 * R := by rw [hQ, hR]; exact frame_length lb 2 (by omega)
  have hR1 : 1 ≤ R := by rw [hR]; exact parts_pos _ (by omega)
  have hR21 : R ≤ 21 := by rw [hR]; exact parts_le _ (by omega)
  have hun : unpackOf Q = (lb, 2, 0) := by rw [hQ]; exact unpack_frame lb 2 h3 h4
  have q2 : decide (1000 < (lb.length : Int)) = false := by simpa using (by omega)
  have q4 : ((lb.length : Int) == 0) = false := by rw [beq_eq_false_iff_ne]; omega
  obtain ⟨X, hX⟩ : ∃ X, X = w.alloc (.cells (rowOf p) 33) := ⟨_, rfl⟩
  have hXs : X.heap.size = w.heap.size + 1 := by rw [hX]; simp
  have hUX : Upd No w X := by rw [hX]; exact (Upd.refl _ _).alloc _
  have b0 : ((X.alloc (.cells #[vb] 22)).alloc (.cells #[.bool false] 4)).heap[w.heap.size]? = some (.cells (rowOf p) 33 (0, 0)) := block_old (block_old (by rw [hX]; exact block_new _ _) _) _
  have b1 := block_old (block_new X (.cells #[vb] 22)) (.cells #[.bool false] 4)
  have b2 := block_new (X.alloc (.cells #[vb] 22)) (.cells #[.bool false] 4)
  have hU0 : Upd No w ((X.alloc (.cells #[vb] 22)).alloc (.cells #[.bool false] 4)) := (hUX.alloc _).alloc _
  rw [World.size_alloc] at b2
  rw [hXs] at b1 b2
  rw [hX] at b0 b1 b2 hU0
  have B0 := Lib.hid b0
  have B1 := Lib.hid b1
  have B2 := Lib.hid b2
  have HQ := Lib.hid hQ
  have HQl := Lib.hid hQl
  have HUN := Lib.hid hun
  have HBB := Lib.hid hbb
  have HRR := Lib.hid hR
  have HP := Lib.hid hp
  have hnew := new_calls 1000 (by decide) (by decide)
  rw [show ((1000 : Nat) : Int) = (1000 : Int) from rfl, ← gl_zero p] at hnew
  clear b0 b1 b2 hX hXs hUX hQ hQl hun hbb hR hp
  subst hvb
  unfold arrV
  refine calls_marks Try.func5 rfl ?_
  simp only [Try.ntmps5, List.size_toArray, List.length_cons, List.length_nil, Nat.reduceAdd, Nat.reduceSub, Array.replicate_succ, Array.replicate_zero, List.push_toArray, List.append_toArray, List.nil_append, List.cons_append]
  go_wp2_with fail
  refine (awake_calls _).mono ?_
  rintro e w1 ⟨rfl, hU1⟩
  have d1 := cells_at (hU1.at B1.out (fun h => h))
  have D0 := Lib.hid (hU1.at B0.out (fun h => h))
  have D1 := Lib.hid (hU1.at B1.out (fun h => h))
  have D2 := Lib.hid (hU1.at B2.out (fun h => h))
  have hs1 : w.heap.size + 2 < w1.heap.size := heap_lt D2.out
  have hV1 := hU0.trans hU1
  go_wp2_with fail
  refine (hnew w1).mono ?_
  clear hnew d1
  rintro e w2 ⟨rfl, hg2, hw2⟩
  have hU2 : Upd No w1 w2 := by rw [hw2]; exact (Upd.refl _ _).alloc _
  have hs2 := hg2.lt
  have HG2 := Lib.hid hg2
  clear hg2 hw2
  go_wp2_with fail
  have hmc := many_calls 1000 (by decide) (by decide) (w2.alloc (.cells #[.pointer (some ⟨w1.heap.size, 0, none⟩)] 25))
  rw [show ((partsOf (1000 : Int).toNat : Nat) : Int) = (21 : Int) from by decide] at hmc
  refine hmc.mono ?_
  rintro e w3 ⟨rfl, hw3⟩
  have hU3 : Upd No w2 w3 := by rw [hw3]; exact (Upd.refl _ _).alloc _
  have c3 : w3.heap[w2.heap.size]? = some (.cells #[.pointer (some ⟨w1.heap.size, 0, none⟩)] 25 (0, 0)) := by rw [hw3]; exact block_new _ _
  have hs3 : w2.heap.size < w3.heap.size := heap_lt c3
  have hinv : Inv w (w.heap.size + 2) (w.heap.size + 1) w2.heap.size w.heap.size w1.heap.size p (.slice a1 lb.length c1) (.slice none 0 0) [] lb (fun i => gl p i) none (List.replicate 0 ([], false)) w3 :=
    ⟨(hU2.trans hU3).at D2.out (fun h => h), (hU2.trans hU3).at D1.out (fun h => h), c3, (hU2.trans hU3).at D0.out (fun h => h), (by intro k hk; cases hk), HG2.out.no hU3, .inl ⟨rfl, rfl⟩, (HBB.out.no hV1).no (hU2.trans hU3), hV1.trans (hU2.trans hU3)⟩
  have H3 := Lib.hid hinv
  clear hmc hinv c3 hw3 hU1 hU2 hU3 hV1 HG2 D0 D1 D2
  have hne1 : w.heap.size + 2 ≠ w1.heap.size ∧ w.heap.size + 1 ≠ w1.heap.size ∧ w2.heap.size ≠ w1.heap.size ∧ w.heap.size ≠ w1.heap.size := by omega
  have hvb2 : ∀ k, (Value.slice a1 lb.length c1).ownBlock = some k → k < w.heap.size := HBB.out.lt
  have hstep : ∀ (X Y : World) (st : Nat → GS) (pre : List (List UInt8 × Bool)) (s : GS), Inv w (w.heap.size + 2) (w.heap.size + 1) w2.heap.size w.heap.size w1.heap.size p (.slice a1 lb.length c1) (.slice none 0 0) [] lb st none pre X → Upd (One w1.heap.size) X Y → Gath Y w1.heap.size s →
      Inv w (w.heap.size + 2) (w.heap.size + 1) w2.heap.size w.heap.size w1.heap.size p (.slice a1 lb.length c1) (.slice none 0 0) [] lb (fun _ => s) none [] Y := fun X Y st pre s hX hU hg =>
    inv_step (st' := fun _ => s) (pre' := []) hX hU hg hne1 (fun k hk => by cases hk) (fun k hk => by cases hk) (fun k hk => by have := hvb2 k hk; omega) (by omega)
  have HST := Lib.hid hstep
  clear hstep
  go_wp2
  go_loopw [9, 10, 11, 12, 46] (fun _ _ _ _ i wr => ∃ k : Nat, k ≤ 21 ∧ i = .int .i64 k ∧ Inv w (w.heap.size + 2) (w.heap.size + 1) w2.heap.size w.heap.size w1.heap.size p (.slice a1 lb.length c1) (.slice none 0 0) [] lb (fun _ => gl p k) none [] wr) (fun _ _ _ _ i _ => 21 - (intOf i).toNat)
  case atStart => exact ⟨0, by omega, rfl, H3.out⟩
  case round =>
    obtain ⟨k, hk, rfl, hiv⟩ := hrel
    have f3 := (cells_at hiv.2.2.1).1 0
    have hld := run_box48 HP.out hiv.2.2.2.1
    have HLD := Lib.hid hld
    have HI := Lib.hid hiv
    clear hiv hld
    by_cases hlt : k < 21
    · have qlt : decide ((k : Int) < 21) = true := by simpa using (by omega)
      go_wp2_with (with_reducible refine stop_dst 51 ?_)
      refine on (wpList_run rfl (exec_load rfl rfl HLD.out) ?_)
      go_wp2_with fail
      have hlc := long_calls w1.heap.size p HP.out k hlt wr HI.out.2.2.2.2.2.1
      unfold arrV at hlc
      by_cases h20 : k = 20
      case' pos =>
        rw [if_pos h20] at hlc
        have qe : ((k : Int) == 20) = true := by rw [beq_iff_eq]; omega
      case' neg =>
        rw [if_neg h20] at hlc
        have qe : ((k : Int) == 20) = false := by rw [beq_eq_false_iff_ne]; omega
      all_goals
        clear h20
        refine hlc.mono ?_
        rintro e wc ⟨rfl, hgc, hUc⟩
        have HIV := Lib.hid (HST.out _ _ _ _ _ HI.out hUc hgc)
        clear hlc hgc hUc f3
        go_wp2
        go_roundw
        case rel => exact ⟨k + 1, by omega, by go_num, HIV.out⟩
        case measure => simp [intOf]; omega
    · obtain rfl : k = 21 := by omega
      have hgS : gl p 21 = ⟨1000, 0, 1, [], true⟩ := rfl
      have hiv := HI.out
      rw [hgS] at hiv
      have HI2 := Lib.hid hiv
      clear HI HLD hiv hgS f3
      obtain ⟨wo, hwo⟩ : ∃ wo : World, wo = wr := ⟨_, rfl⟩
      subst hwo
      go_wp2
      go_loopw [13, 14, 15, 70] (fun _ _ _ i wr => ∃ k : Nat, k ≤ many ∧ i = .int .i64 k ∧ Inv w (w.heap.size + 2) (w.heap.size + 1) w2.heap.size w.heap.size w1.heap.size p (.slice a1 lb.length c1) (.slice none 0 0) [] lb (fun _ => ⟨1000, 0, 1, [], true⟩) none [] wr) (fun _ _ _ i _ => many - (intOf i).toNat)
      case atStart => exact ⟨0, by omega, rfl, HI2.out⟩
      case round =>
        obtain ⟨k, hk, rfl, hiv⟩ := hrel
        have f3 := (cells_at hiv.2.2.1).1 0
        have hld := run_box48 HP.out hiv.2.2.2.1
        have HLD := Lib.hid hld
        have HI := Lib.hid hiv
        clear hiv hld HI2
        by_cases hlt : k < many
        · have qlt : decide ((k : Int) < (many : Int)) = true := by simpa using hlt
          go_wp2_with (with_reducible refine stop_dst 74 ?_)
          refine on (wpList_run rfl (exec_load rfl rfl HLD.out) ?_)
          go_wp2_with fail
          have hlc := skip_calls w1.heap.size p HP.out false wr HI.out.2.2.2.2.2.1
          unfold arrV at hlc
          refine hlc.mono ?_
          rintro e wc ⟨rfl, hgc, hUc⟩
          have hiv2 := HST.out _ _ _ _ (⟨1000, 0, 1, [], true⟩ : GS) HI.out hUc hgc
          have f3c := (cells_at hiv2.2.2.1).1 0
          have hpc := parts_calls _ _ _ hgc
          rw [show ((((⟨1000, 0, 1, [], !false⟩ : GS).b.length / 48 : Nat)) : Int) = (0 : Int) from rfl] at hpc
          have HIV := Lib.hid hiv2
          clear hlc hgc hUc f3 hiv2
          go_wp2_with fail
          refine hpc.mono ?_
          rintro e wd ⟨rfl, hwd⟩
          subst hwd
          clear hpc
          go_wp2
          go_roundw
          case rel =>
            repeat apply Exists.intro
            exact ⟨⟨k + 1, by omega, by go_num, HIV.out⟩, rfl⟩
          case measure => simp [intOf]; omega
        · have qlt : decide ((k : Int) < (many : Int)) = false := by simpa using hlt
          have hs5 : w2.heap.size < wr.heap.size := heap_lt HI.out.2.2.1
          have hVr := HI.out.2.2.2.2.2.2.2.2.size
          go_wp2_with (with_reducible refine stop_dst 89 ?_)
          refine on (wpList_run rfl (exec_load rfl rfl HLD.out) ?_)
          go_wp2_with fail
          have hlc := skip_calls w1.heap.size p HP.out true wr HI.out.2.2.2.2.2.1
          unfold arrV at hlc
          refine hlc.mono ?_
          rintro e w4 ⟨rfl, hg4, hU4⟩
          have hiv4 := HST.out _ _ _ _ _ HI.out hU4 hg4
          have f4 := (cells_at hiv4.2.1).1 0
          have hs4 := hU4.size
          have HI4 := Lib.hid hiv4
          clear hlc hg4 hU4 f3 hiv4 HLD HI
          go_wp2_with fail
          have hpk := pack_calls _ lb 2 w4 HI4.out.2.2.2.2.2.2.2.1 h3 h4
          rw [← HQ.out, show byteV 2 = Value.int .u8 2 from rfl] at hpk
          refine hpk.mono ?_
          clear hpk f4
          rintro e w5 ⟨v, rfl, hvn, ho, hU5⟩
          obtain ⟨gQ, cQ, rfl, hgQ, hgQ2, hcQ, hcQm, hcellQ⟩ := ho.known hvn
          have hbQ := ho.bytes
          rw [HQl.out] at hcQ hcellQ hbQ ⊢
          unfold maxLen at hcQm
          have hiv5 := inv_no HI4.out hU5
          have hst0 : (⟨1000, 0, 1, [], !true⟩ : GS) = st2 Q R 0 := by rw [st2_zero Q R hR1]; rfl
          rw [hst0] at hiv5
          have hiv5' : Inv w (w.heap.size + 2) (w.heap.size + 1) w2.heap.size w.heap.size w1.heap.size p (.slice a1 lb.length c1) (.slice (some ⟨gQ, 0, none⟩) (48 * R) cQ) Q lb (fun i => st2 Q R i) none [] w5 := by
            obtain ⟨i1, i2, i3, i4, i5, ig, iq, ib, iU⟩ := hiv5
            exact ⟨i1, i2, i3, i4, i5, ig, hbQ, ib, iU⟩
          have H5 := Lib.hid hiv5'
          have hs5' := hU5.size
          clear hcellQ hbQ ho hvn hiv5 hiv5' hst0 HI4 hU5
          go_wp2_with fail
          refine (cells_calls _ _ _ _).mono ?_
          rintro e w6 ⟨rfl, hw6⟩
          have hU6 : Upd No w5 w6 := by rw [hw6]; exact (Upd.refl _ _).alloc _
          have c6 : w6.heap[w5.heap.size]? = some (.cells #[.slice (some ⟨gQ, 0, none⟩) (48 * R) cQ] 22 (0, 0)) := by rw [hw6]; exact block_new _ _
          have hs6 : w5.heap.size < w6.heap.size := heap_lt c6
          have hc6 := (cells_at c6).1 0
          have HC6 := Lib.hid (show w6.cell? ⟨w5.heap.size, 0, none⟩ = some (.slice (some ⟨gQ, 0, none⟩) (48 * R) cQ) from hc6)
          have hinv := inv_no H5.out hU6
          have H6 := Lib.hid hinv
          have IQ6 := Lib.hid hinv.2.2.2.2.2.2.1
          have hVw := hinv.2.2.2.2.2.2.2.2.size
          clear hc6 c6 hw6 hinv H5
          go_wp2_with fail
          refine range_out (gf := 25) (lb := #[.pointer (some ⟨w5.heap.size, 0, none⟩)]) rfl (enters_of Try.func25 (by kernel_rfl) rfl)
            (cells_iter w5.heap.size (.slice (some ⟨gQ, 0, none⟩) (48 * R) cQ) Q (fun k _ => k = gQ) (fun k o h => by cases h; rfl) w6 HC6.out IQ6.out)
            (fun k o h => .inl (by omega)) (fun _ => rfl)
            (Inv w (w.heap.size + 2) (w.heap.size + 1) w2.heap.size w.heap.size w1.heap.size p (.slice a1 lb.length c1) (.slice (some ⟨gQ, 0, none⟩) (48 * R) cQ) Q lb (fun i => st2 Q R i) none)
            (fun _ _ _ => False) (inv_own (by omega) (fun k hk => by cases hk)) (fun _ => ownFrom_false) H6.out ?round ?done ?stop
          case stop =>
            rintro D2 c pre W2 _ _ h _
            exact h.elim
          case round =>
            intro l pre x post W2 hx hl hi
            obtain ⟨hxe, hj⟩ := chunks_at hx
            rw [HQl.out] at hj
            subst hxe
            obtain ⟨j, hjj⟩ : ∃ j, j = pre.length := ⟨_, rfl⟩
            rw [← hjj] at hj
            have hp2 := chunk_len Q j (by rw [HQl.out]; exact hj)
            have HI := Lib.hid hi
            rw [← hjj]
            have HJ := Lib.hid hjj
            clear hi hx hjj
            unfold cellEnc
            gi_wp2_with (with_reducible refine gstop_dst 21 ?_)
            refine on (box48_in rfl rfl (.tmp 101) 21 rfl rfl rfl rfl (chunk Q j).1 hp2 rfl rfl ?_)
            intro W3 hbx hbl hU1b
            gi_wp2
            refine ⟨hU1b.keepsFrom (fun _ _ h => h.elim), hU1b.keeps (fun _ _ h => h.elim), fun W' => Inv w (w.heap.size + 2) (w.heap.size + 1) w2.heap.size w.heap.size w1.heap.size p (.slice a1 lb.length c1) (.slice (some ⟨gQ, 0, none⟩) (48 * R) cQ) Q lb (fun i => st2 Q R i) none pre W' ∧ W'.heap[W2.heap.size]? = some (.cells (rowOf (chunk Q j).1) 33 (0, 0)),
              fun _ X Y row hs hg hr => ⟨inv_own (by omega) (fun k hk => by cases hk) pre X Y row hs.1 hg hr, kept_cells hg (fun r e => (hr r e).2) hs.2⟩, ⟨inv_no HI.out hU1b, hbx⟩, ?_⟩
            clear hU1b hbx HI
            rintro Wb _ ⟨hiv, ibx⟩
            have f2 := cells_at hiv.2.1
            have f3d := (cells_at hiv.2.2.1).1 0
            have IG := Lib.hid (show Gath Wb w1.heap.size (st2 Q R j) from by rw [HJ.out]; exact hiv.2.2.2.2.2.1)
            have HI := Lib.hid hiv
            have hld := run_box48 hp2 ibx
            have HLD := Lib.hid hld
            have hj2 : j < R := by omega
            clear hiv ibx hld
            gi_wp2_with (with_reducible refine gstop_dst 105 ?_)
            refine on (wpListIn_run rfl (fun c h => Op.noConfusion h) (about_load rfl) (exec_load rfl rfl HLD.out) ?_)
            gi_wp2_with fail
            have hgs := step2_calls w1.heap.size R j Q lb HQl.out hR21 hj2 HUN.out Wb IG.out
            unfold arrV at hgs
            refine ⟨trivial, (to_round hgs).mono ?_⟩
            rintro e Wc ⟨v, m, err, rfl, hgc, hUc, hlast⟩
            have hg' : Gath Wc w1.heap.size (st2 Q R (pre ++ [chunk Q j]).length) := by rw [List.length_append, ← HJ.out]; exact hgc
            have hst := inv_step (st' := fun i => st2 Q R i) (pre' := pre ++ [chunk Q j]) HI.out hUc hg' hne1 (fun k hk => by simp [Value.ownBlock] at hk; omega) (fun k hk => by cases hk) (fun k hk => by have := hvb2 k hk; omega) (by omega)
            have HEND := Lib.hid hst
            have IBc := Lib.hid hst.2.2.2.2.2.2.2.1
            have f2c := cells_at hst.2.1
            have HLA := Lib.hid hlast
            have hszc := hUc.size
            clear hgs hgc f3d hlast f2 hst hg'
            cases hcl : (chunk Q j).2
            · gi_wp2
              case h_2 =>
                refine ⟨trivial, ?_⟩
                gi_wp2
                exact ⟨hUc.keepsFrom (fun k o h1 h2 _ => by simp [One] at h1; omega), hUc.keeps (fun k o h1 _ h2 => by simp [One] at h1; omega), HEND.out⟩
              all_goals
                rename_i hu _
                exact (Value.noConfusion (Option.some.inj hu))
            · obtain ⟨hbv, hm, he⟩ := HLA.out hcl
              have HBV := Lib.hid hbv
              subst hm he
              clear hbv
              gi_wp2
              have hsame := same_calls v (.slice a1 lb.length c1) lb lb Wc HBV.out IBc.out (by omega)
              rw [beq_self_eq_true] at hsame
              refine ⟨trivial, (to_round hsame).mono ?_⟩
              rintro e Wd ⟨rfl, hUd⟩
              gi_wp2
              have hUd2 : Upd (One w1.heap.size) Wb Wd := hUc.trans (hUd.mono (fun _ _ h => h.elim))
              exact ⟨hUd2.keepsFrom (fun k o h1 h2 _ => by simp [One] at h1; omega), hUd2.keeps (fun k o h1 _ h2 => by simp [One] at h1; omega), inv_no HEND.out hUd⟩
          case done =>
            rintro D2 W2 hD2 hiv hK2
            have hlen : (chunks Q).length = R := by rw [chunks_length, HQl.out]; omega
            have ig : Gath W2 w1.heap.size (⟨1000, 0, 1, [], false⟩ : GS) := by
              have := hiv.2.2.2.2.2.1
              rw [hlen] at this
              simpa only [st2, if_neg (Nat.lt_irrefl R)] using this
            have hld := run_box48 HP.out hiv.2.2.2.1
            have HLD := Lib.hid hld
            have HI := Lib.hid hiv
            have HK2 := Lib.hid hK2
            have HG := Lib.hid ig
            have hDl := heap_lt hK2
            clear hiv hld ig hK2 hlen
            go_wp2_with (with_reducible refine stop_dst 124 ?_)
            refine on (wpList_run rfl (exec_load rfl rfl HLD.out) ?_)
            go_wp2_with fail
            have hnt := nil_take p W2
            unfold arrV at hnt
            refine hnt.mono ?_
            rintro e W3 ⟨rfl, hU3⟩
            have hiv3 := inv_no HI.out hU3
            have ho := lost_calls _ _ _ (HG.out.no hU3)
            rw [show (((⟨1000, 0, 1, [], false⟩ : GS).lost : Nat) : Int) = (1 : Int) from rfl] at ho
            have HO := Lib.hid ho
            have f3d := (cells_at hiv3.2.2.1).1 0
            have HK3 := Lib.hid (hU3.at HK2.out (fun h => h))
            have HI3 := Lib.hid hiv3
            clear hnt ho hiv3 HG HI HK2 HLD hU3
            go_wp2_with fail
            refine HO.out.mono ?_
            rintro e W4 ⟨rfl, hW4⟩
            subst hW4
            go_wp2_with fail
            refine (nil_tick _).mono ?_
            rintro e W5 ⟨rfl, hU5⟩
            go_wp2_with fail
            refine (nil_parts _).mono ?_
            rintro e W6 ⟨rfl, hW6⟩
            subst hW6
            go_wp2_with fail
            refine (nil_lost _).mono ?_
            rintro e wF ⟨rfl, hwF⟩
            subst hwF
            have hivF := inv_no HI3.out hU5
            have hKF := hU5.at HK3.out (fun h => h)
            have f1 := cells_at hivF.1
            have iU2 := hivF.2.2.2.2.2.2.2.2
            clear hivF f3d hU5
            go_wp2
            have hUl := iU2.setCell (p := ⟨w.heap.size + 2, 0, none⟩) (.inl (by simp)) (.bool true)
            have hrc : (wF.setCell ⟨w.heap.size + 2, 0, none⟩ (.bool true)).cell? ⟨w.heap.size + 2, 0, none⟩ = some (.bool true) := by
              rw [World.cell?_setCell_same _ _ _ (by rw [f1.1 0]; rfl)]
            refine fin_marks (B := w.heap.size) _ [D2] _ (by simp) (by simp; exact ⟨by omega, block_other hKF (by simp; omega) _⟩) (fun W' hW' => ⟨.bool true, ?_, rfl, hW'.upd hUl (Nat.le_refl _)⟩)
            have hrc2 := hW'.cell hrc
            simp [results, Try.results5, go_sem, hrc2]
end Go.Proofs.Ytddohdfccagbbaa.Long
