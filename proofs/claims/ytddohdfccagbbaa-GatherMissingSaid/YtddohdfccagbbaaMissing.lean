/- The statement GatherMissing: with a part that is left out no text of that frame is told, and the frame behind it is. -/
import Derived.Test.YtddohdfccagbbaaRows
import Derived.Test.YtddohdfccagbbaaBase
import Derived.Test.YtddohdfccagbbaaBytes
import Derived.Test.YtddohdfccagbbaaFrame
import Derived.Test.YtddohdfccagbbaaCells
import Derived.Test.YtddohdfccagbbaaGather
import Derived.Test.YtddohdfccagbbaaTake
import Derived.Test.YtddohdfccagbbaaGPure
import Derived.Test.YtddohdfccagbbaaAwake11
import Derived.Test.YtddohdfccagbbaaSame
import Derived.Test.YtddohdfccagbbaaMem
namespace Go.Proofs.Ytddohdfccagbbaa.Missing
open Go.RowKit Go.Shelf
attribute [local go_sem] Oper.semAt_some

/-! ### The plain part: the frame without its part k -/
def cutOut (F : List UInt8) (k : Nat) : List UInt8 := F.take (48 * k) ++ F.drop (48 * (k + 1))
def idx (k j : Nat) : Nat := if j ≤ k then j else j - 1
def st (G : List UInt8) (i : Nat) : GS := if i < G.length / 48 then fed 100 0 0 G i 0 else ⟨100, 0, 1, [], false⟩
theorem cutOut_length (F : List UInt8) (k P : Nat) (hF : F.length = 48 * P) (hk : k < P) : (cutOut F k).length = 48 * (P - 1) := by
  rw [cutOut, List.length_append, List.length_take, List.length_drop]; omega
theorem chunk_before (F : List UInt8) (k P j : Nat) (hF : F.length = 48 * P) (hk : k + 1 < P) (hj : j < k) : chunk F j = chunk (cutOut F k) j := by
  have hl := cutOut_length F k P hF (by omega)
  unfold chunk
  rw [hl, hF]
  congr 1
  · rw [cutOut, List.drop_append_of_le_length (by rw [List.length_take]; omega), List.take_append_of_le_length (by rw [List.length_drop, List.length_take]; omega), List.drop_take, List.take_take]
    congr 1
    omega
  · rw [Bool.eq_iff_iff, beq_iff_eq, beq_iff_eq]
    omega
theorem chunk_behind (F : List UInt8) (k P j : Nat) (hF : F.length = 48 * P) (hk : k + 1 < P) (hj : k < j) : chunk F j = chunk (cutOut F k) (j - 1) := by
  have hl := cutOut_length F k P hF (by omega)
  unfold chunk
  rw [hl, hF]
  congr 1
  · have e : (cutOut F k).drop (48 * (j - 1)) = F.drop (48 * j) := by
      have e1 : (F.take (48 * k)).drop (48 * (j - 1)) = [] := List.drop_of_length_le (by rw [List.length_take]; omega)
      rw [cutOut, List.drop_append, e1, List.nil_append, List.drop_drop, List.length_take]
      congr 1
      omega
    rw [e]
  · rw [Bool.eq_iff_iff, beq_iff_eq, beq_iff_eq]
    omega
theorem chunk_last (F : List UInt8) (P i : Nat) (hF : F.length = 48 * P) (hi : i < P) : (chunk F i).2 = decide (i + 1 = P) := by
  unfold chunk
  rw [Bool.eq_iff_iff, beq_iff_eq, decide_eq_true_eq]
  omega

/-- A part of the cut frame, at 0. -/
theorem gstep_calls (g : Nat) (G : List UInt8) (P i : Nat) (hG : G.length = 48 * P) (hP : P ≤ 21) (hi : i < P) (hbad : (unpackOf G).2.2 ≠ 0) (w : World) (h : Gath w g (st G i)) :
    Calls Try.prog 11 #[.pointer (some ⟨g, 0, none⟩), .int .i64 0, arrV (chunk G i).1, .bool (chunk G i).2] w fun e w' => (∃ (m : UInt8) (err : Nat), e = .returned (.tuple #[.slice none 0 0, byteV m, .int .i64 (err : Int)]) ∧ err ≠ 0) ∧ Gath w' g (st G (i + 1)) ∧ Upd (One g) w w' := by
  have hq : G.length / 48 = P := by omega
  unfold st at h ⊢
  rw [hq] at h ⊢
  rw [if_pos hi] at h
  by_cases hl : i + 1 = P
  · have hc : (chunk G i).2 = true := by rw [chunk_last G P i hG hi]; simpa using hl
    rw [hc, if_neg (by omega)]
    refine (last_calls g 100 0 0 G i 0 (by decide) (by decide) (by omega) (by omega) (by omega) hc (by decide) w h).mono ?_
    rintro e w' ⟨v, he, hv, _, hg, hU⟩
    rw [if_pos hbad] at hg
    exact ⟨⟨_, _, by rw [he, hv hbad], hbad⟩, hg, hU⟩
  · have hc : (chunk G i).2 = false := by rw [chunk_last G P i hG hi]; simpa using hl
    rw [hc, if_pos (by omega)]
    exact (more_calls g 100 0 0 G i 0 (by decide) (by decide) (by omega) (by omega) (by omega) hc (by decide) w h).mono fun e w' ⟨he, hg, hU⟩ => ⟨⟨0, 2, he, by decide⟩, hg, hU⟩

/-- The guard's way out. -/
theorem early (a0 : Option Addr) (n0 c0 : Nat) (a1 : Option Addr) (n1 c1 : Nat) (k : Int) (w : World) (h : 900 < n0 ∨ 1000 < n1 ∨ n0 ≤ 88 ∨ n1 = 0) :
    Calls Try.prog 4 #[.slice a0 n0 c0, .slice a1 n1 c1, .int .u8 k] w fun e w' => e = .returned (.bool true) ∧ Upd No w w' := by
  by_cases g1 : 900 < n0
  case' pos => have q1 : decide (900 < (n0 : Int)) = true := by simpa using (by omega)
  case' neg =>
    have q1 : decide (900 < (n0 : Int)) = false := by simpa using (by omega)
    by_cases g2 : 1000 < n1
    case' pos => have q2 : decide (1000 < (n1 : Int)) = true := by simpa using (by omega)
    case' neg =>
      have q2 : decide (1000 < (n1 : Int)) = false := by simpa using (by omega)
      by_cases g3 : n0 ≤ 88
      case' pos => have q3 : decide ((n0 : Int) ≤ 88) = true := by simpa using (by omega)
      case' neg =>
        have q3 : decide ((n0 : Int) ≤ 88) = false := by simpa using (by omega)
        have q4 : ((n1 : Int) == 0) = true := by rw [beq_iff_eq]; omega
  all_goals
    clear h
    have b1 := block_old (block_new w (.cells #[.slice a1 n1 c1] 22)) (.cells #[.bool false] 4)
    have b2 := block_new (w.alloc (.cells #[.slice a1 n1 c1] 22)) (.cells #[.bool false] 4)
    rw [World.size_alloc] at b2
    have hU0 : Upd No w ((w.alloc (.cells #[.slice a1 n1 c1] 22)).alloc (.cells #[.bool false] 4)) := ((Upd.refl _ _).alloc _).alloc _
    have B1 := Lib.hid b1
    have B2 := Lib.hid b2
    clear b1 b2
    go_enter Try.func4, Try.ntmps4
    go_wp2_with fail
    refine (awake_calls _).mono ?_
    rintro e w1 ⟨rfl, hU1⟩
    have d1 := cells_at (hU1.at B1.out (fun h => h))
    have d2 := cells_at (hU1.at B2.out (fun h => h))
    go_wp2_with fail
    refine (awake_calls _).mono ?_
    rintro e w2 ⟨rfl, hU2⟩
    have d3 := cells_at ((hU1.trans hU2).at B2.out (fun h => h))
    have hlt : w.heap.size + 1 < w2.heap.size := heap_lt ((hU1.trans hU2).at B2.out (fun h => h))
    clear d1 d2
    go_wp2
    refine bodyPost_ret (v := .bool true) (by simp [results, Try.results4, go_sem, d3]) rfl ⟨rfl, ?_⟩
    exact ((hU0.trans hU1).trans hU2).setCell (.inl (by simp)) _

/-- What holds between two rounds of the first loop. -/
def Inv1 (w : World) (bR bB bG bK bN g kk : Nat) (vb vQ : Value) (G Q lb : List UInt8) (pre : List (List UInt8 × Bool)) (W : World) : Prop :=
  W.heap[bR]? = some (.cells #[.bool false] 4 (0, 0)) ∧ W.heap[bB]? = some (.cells #[vb] 22 (0, 0)) ∧ W.heap[bG]? = some (.cells #[.pointer (some ⟨g, 0, none⟩)] 25 (0, 0)) ∧
  W.heap[bK]? = some (.cells #[.int .i64 (kk : Int)] 3 (0, 0)) ∧ W.heap[bN]? = some (.cells #[.int .i64 ((pre.length : Nat) : Int)] 3 (0, 0)) ∧
  Gath W g (st G (idx kk pre.length)) ∧ Bytes W vQ Q ∧ Bytes W vb lb ∧ Upd No w W
theorem inv1_own {w : World} {B bR bB bG bK bN g kk : Nat} {vb vQ : Value} {G Q lb : List UInt8} (hB : w.heap.size ≤ B) : OwnFrom B (Inv1 w bR bB bG bK bN g kk vb vQ G Q lb) :=
  (ownFrom_cells _ _ _).and ((ownFrom_cells _ _ _).and ((ownFrom_cells _ _ _).and ((ownFrom_cells _ _ _).and ((ownFrom_cells _ _ _).and ((ownFrom_gath _).and ((ownFrom_bytes _ _).and ((ownFrom_bytes _ _).and (ownFrom_upd hB))))))))

theorem inv1_no {w : World} {bR bB bG bK bN g kk : Nat} {vb vQ : Value} {G Q lb : List UInt8} {pre : List (List UInt8 × Bool)} {W W' : World} (h : Inv1 w bR bB bG bK bN g kk vb vQ G Q lb pre W) (hU : Upd No W W') : Inv1 w bR bB bG bK bN g kk vb vQ G Q lb pre W' :=
  ⟨hU.at h.1 (fun h => h), hU.at h.2.1 (fun h => h), hU.at h.2.2.1 (fun h => h), hU.at h.2.2.2.1 (fun h => h), hU.at h.2.2.2.2.1 (fun h => h), h.2.2.2.2.2.1.no hU, h.2.2.2.2.2.2.1.no hU, h.2.2.2.2.2.2.2.1.no hU, h.2.2.2.2.2.2.2.2.trans hU⟩

/-- The end of a round of the first loop: one is added to the count. -/
theorem inv1_step {w X : World} {bR bB bG bK bN g kk : Nat} {va : Option Addr} {vn vc qb qo qn qc : Nat} {G Q lb : List UInt8} {pre : List (List UInt8 × Bool)} {x : List UInt8 × Bool} {j : Nat} (hj : j = pre.length)
    (h1 : X.heap[bR]? = some (.cells #[.bool false] 4 (0, 0))) (h2 : X.heap[bB]? = some (.cells #[.slice va vn vc] 22 (0, 0))) (h3 : X.heap[bG]? = some (.cells #[.pointer (some ⟨g, 0, none⟩)] 25 (0, 0)))
    (h4 : X.heap[bK]? = some (.cells #[.int .i64 (kk : Int)] 3 (0, 0))) (h5 : X.heap[bN]? = some (.cells #[.int .i64 (j : Int)] 3 (0, 0))) (hg : Gath X g (st G (idx kk (j + 1)))) (hq : Bytes X (.slice (some ⟨qb, qo, none⟩) qn qc) Q) (hb : Bytes X (.slice va vn vc) lb) (hU : Upd No w X)
    (hw : w.heap.size ≤ bN) (hbn : bR ≠ bN ∧ bB ≠ bN ∧ bG ≠ bN ∧ bK ≠ bN ∧ g ≠ bN ∧ qb ≠ bN) (hvb : ∀ k, (Value.slice va vn vc).ownBlock = some k → k ≠ bN) :
    Inv1 w bR bB bG bK bN g kk (.slice va vn vc) (.slice (some ⟨qb, qo, none⟩) qn qc) G Q lb (pre ++ [x]) (X.setCell ⟨bN, 0, none⟩ (.int .i64 ((j : Int) + 1))) := by
  obtain ⟨n1, n2, n3, n4, n5, n6⟩ := hbn
  have hl : (pre ++ [x]).length = j + 1 := by rw [hj]; simp
  have hU1 : Upd (One bN) X (X.setCell ⟨bN, 0, none⟩ (.int .i64 ((j : Int) + 1))) := (Upd.refl (One bN) X).setCell (.inr (by simp [One])) _
  refine ⟨hU1.at h1 n1, hU1.at h2 n2, hU1.at h3 n3, hU1.at h4 n4, ?_, ?_, hq.upd hU1 (fun k hk => by simp [Value.ownBlock] at hk; subst hk; exact n6), hb.upd hU1 hvb, hU.setCell (.inl hw) _⟩
  · rw [hl, block_set h5]
    rfl
  · rw [hl]
    exact hg.set h5 (by decide) n5.symm

/-- The Gatherer after the first i parts of the second frame. -/
def st2 (Q : List UInt8) (R i : Nat) : GS := if i < R then fed 100 1 1 Q i 0 else ⟨100, 1, 1, [], false⟩
theorem st2_zero (Q : List UInt8) (R : Nat) (h : 1 ≤ R) : st2 Q R 0 = fed 100 1 1 Q 0 0 := by rw [st2, if_pos (by omega)]
theorem step2_calls (g R i : Nat) (Q lb : List UInt8) (hQ : Q.length = 48 * R) (hR : R ≤ 21) (hi : i < R) (hun : unpackOf Q = (lb, 2, 0)) (w : World) (h : Gath w g (st2 Q R i)) :
    Calls Try.prog 11 #[.pointer (some ⟨g, 0, none⟩), .int .i64 1, arrV (chunk Q i).1, .bool (chunk Q i).2] w fun e w' => ∃ (v : Value) (m : UInt8) (err : Nat), e = .returned (.tuple #[v, byteV m, .int .i64 (err : Int)]) ∧ Gath w' g (st2 Q R (i + 1)) ∧ Upd (One g) w w' ∧ ((chunk Q i).2 = true → Bytes w' v lb ∧ m = 2 ∧ err = 0) := by
  have hq : Q.length / 48 = R := by omega
  unfold st2 at h ⊢
  rw [if_pos hi] at h
  by_cases hl : i + 1 = R
  · have hc : (chunk Q i).2 = true := by rw [chunk_last Q R i hQ hi]; simpa using hl
    rw [hc, if_neg (by omega)]
    refine (last_calls g 100 1 1 Q i 0 (by decide) (by decide) (by omega) (by omega) (by omega) hc (by decide) w h).mono ?_
    rintro e w' ⟨v, he, _, ho, hg, hU⟩
    rw [hun] at he ho hg
    exact ⟨v, 2, 0, he, hg, hU, fun _ => ⟨ho.bytes, rfl, rfl⟩⟩
  · have hc : (chunk Q i).2 = false := by rw [chunk_last Q R i hQ hi]; simpa using hl
    rw [hc, if_pos (by omega)]
    exact (more_calls g 100 1 1 Q i 0 (by decide) (by decide) (by omega) (by omega) (by omega) hc (by decide) w h).mono fun e w' ⟨he, hg, hU⟩ => ⟨_, 0, 2, he, hg, hU, fun h => Bool.noConfusion h⟩

/-- What holds between two rounds of the second loop. -/
def Inv2 (w : World) (bR bB bG g D R : Nat) (vb vQ : Value) (Q lb : List UInt8) (pre : List (List UInt8 × Bool)) (W : World) : Prop :=
  W.heap[bR]? = some (.cells #[.bool false] 4 (0, 0)) ∧ W.heap[bB]? = some (.cells #[vb] 22 (0, 0)) ∧ W.heap[bG]? = some (.cells #[.pointer (some ⟨g, 0, none⟩)] 25 (0, 0)) ∧
  W.heap[D]? = some (.deferred (some [])) ∧ Gath W g (st2 Q R pre.length) ∧ Bytes W vQ Q ∧ Bytes W vb lb ∧ Upd No w W

theorem inv2_own {w : World} {B bR bB bG g D R : Nat} {vb vQ : Value} {Q lb : List UInt8} (hB : w.heap.size ≤ B) (hD : D < B) : OwnFrom B (Inv2 w bR bB bG g D R vb vQ Q lb) :=
  (ownFrom_cells _ _ _).and ((ownFrom_cells _ _ _).and ((ownFrom_cells _ _ _).and ((ownFrom_block hD _).and ((ownFrom_gath _).and ((ownFrom_bytes _ _).and ((ownFrom_bytes _ _).and (ownFrom_upd hB)))))))
theorem inv2_no {w : World} {bR bB bG g D R : Nat} {vb vQ : Value} {Q lb : List UInt8} {pre : List (List UInt8 × Bool)} {W W' : World} (h : Inv2 w bR bB bG g D R vb vQ Q lb pre W) (hU : Upd No W W') : Inv2 w bR bB bG g D R vb vQ Q lb pre W' :=
  ⟨hU.at h.1 (fun h => h), hU.at h.2.1 (fun h => h), hU.at h.2.2.1 (fun h => h), hU.at h.2.2.2.1 (fun h => h), h.2.2.2.2.1.no hU, h.2.2.2.2.2.1.no hU, h.2.2.2.2.2.2.1.no hU, h.2.2.2.2.2.2.2.trans hU⟩

set_option maxRecDepth 100000 in
set_option maxHeartbeats 4000000 in
theorem main (va vb : Value) (a0 : Option Addr) (c0 : Nat) (a1 : Option Addr) (c1 : Nat) (la lb : List UInt8) (hva : va = .slice a0 la.length c0) (hvb : vb = .slice a1 lb.length c1) (cut : Nat) (hcut : cut < 256) (w : World) (hba : Bytes w va la) (hbb : Bytes w vb lb) (h1 : 89 ≤ la.length) (h2 : la.length ≤ 900) (h3 : 1 ≤ lb.length) (h4 : lb.length ≤ 1000) :
    Calls Try.prog 4 #[va, vb, .int .u8 (cut : Int)] w fun e w' => e = .returned (.bool true) ∧ Upd No w w' := by
  obtain ⟨F, hF⟩ : ∃ F, F = frameOf la 1 := ⟨_, rfl⟩
  obtain ⟨Q, hQ⟩ : ∃ Q, Q = frameOf lb 2 := ⟨_, rfl⟩
  obtain ⟨P, hP⟩ : ∃ P, P = partsOf la.length := ⟨_, rfl⟩
  obtain ⟨R, hR⟩ : ∃ R, R = partsOf lb.length := ⟨_, rfl⟩
  have hFl : F.length = 48 * P := by rw [hF, hP]; exact frame_length la 1 (by omega)
  have hQl : Q.length = 48 * R := by rw [hQ, hR]; exact frame_length lb 2 (by omega)
  have hP3 : 3 ≤ P := by rw [hP]; unfold partsOf; rw [if_neg (by omega)]; omega
  have hP21 : P ≤ 21 := by rw [hP]; exact parts_le _ (by omega)
  have hR1 : 1 ≤ R := by rw [hR]; exact parts_pos _ (by omega)
  have hR21 : R ≤ 21 := by rw [hR]; exact parts_le _ (by omega)
  obtain ⟨kk, hkk⟩ : ∃ kk, kk = cut % (P - 1) := ⟨_, rfl⟩
  have hkP : kk + 1 < P := by rw [hkk]; have := Nat.mod_lt cut (show 0 < P - 1 by omega); omega
  obtain ⟨G, hG⟩ : ∃ G, G = cutOut F kk := ⟨_, rfl⟩
  have hGl : G.length = 48 * (P - 1) := by rw [hG]; exact cutOut_length F kk P hFl (by omega)
  have hbad : (unpackOf G).2.2 ≠ 0 := by rw [hG, hF]; exact unpack_missing la 1 (by omega) (by omega) kk (by rw [← hP]; exact hkP)
  have hun : unpackOf Q = (lb, 2, 0) := by rw [hQ]; exact unpack_frame lb 2 h3 h4
  have e1 : (((48 * P : Nat) : Int) / 48) = (P : Int) := by omega
  have e2 : (cut : Int) % ((P : Int) - 1) = (kk : Int) := by rw [hkk, show ((P : Int) - 1) = ((P - 1 : Nat) : Int) from by omega]; exact (Int.natCast_emod _ _).symm
  have q1 : decide (900 < (la.length : Int)) = false := by simpa using (by omega)
  have q2 : decide (1000 < (lb.length : Int)) = false := by simpa using (by omega)
  have q3 : decide ((la.length : Int) ≤ 88) = false := by simpa using (by omega)
  have q4 : ((lb.length : Int) == 0) = false := by rw [beq_eq_false_iff_ne]; omega
  have b1 := block_old (block_new w (.cells #[vb] 22)) (.cells #[.bool false] 4)
  have b2 := block_new (w.alloc (.cells #[vb] 22)) (.cells #[.bool false] 4)
  rw [World.size_alloc] at b2
  have hU0 : Upd No w ((w.alloc (.cells #[vb] 22)).alloc (.cells #[.bool false] 4)) := ((Upd.refl _ _).alloc _).alloc _
  have B1 := Lib.hid b1
  have B2 := Lib.hid b2
  have HF := Lib.hid hF
  have HQ := Lib.hid hQ
  have HFl := Lib.hid hFl
  have HQl := Lib.hid hQl
  have HG := Lib.hid hG
  have HGl := Lib.hid hGl
  have HBD := Lib.hid hbad
  have HUN := Lib.hid hun
  have HKK := Lib.hid hkk
  have HBA := Lib.hid hba
  have HBB := Lib.hid hbb
  have HPP := Lib.hid hP
  have HRR := Lib.hid hR
  have HE2 := Lib.hid e2
  have hnew := new_calls 100 (by decide) (by decide)
  rw [show ((100 : Nat) : Int) = (100 : Int) from rfl, new_fed 100 0 G] at hnew
  clear b1 b2 hF hQ hFl hQl hG hGl hbad hun hkk hba hbb hP hR e2
  subst hva hvb
  refine calls_marks Try.func4 rfl ?_
  simp only [Try.ntmps4, List.size_toArray, List.length_cons, List.length_nil, Nat.reduceAdd, Nat.reduceSub, Array.replicate_succ, Array.replicate_zero, List.push_toArray, List.append_toArray, List.nil_append, List.cons_append]
  go_wp2_with fail
  refine (awake_calls _).mono ?_
  rintro e w1 ⟨rfl, hU1⟩
  have d1 := cells_at (hU1.at B1.out (fun h => h))
  have D1 := Lib.hid (hU1.at B1.out (fun h => h))
  have D2 := Lib.hid (hU1.at B2.out (fun h => h))
  have hs1 : w.heap.size + 1 < w1.heap.size := heap_lt D2.out
  have hV1 := hU0.trans hU1
  go_wp2_with fail
  refine (hnew w1).mono ?_
  clear hnew d1
  rintro e w2 ⟨rfl, hg2, hw2⟩
  have hU2 : Upd No w1 w2 := by rw [hw2]; exact (Upd.refl _ _).alloc _
  have hs2 := hg2.lt
  have HG2 := Lib.hid hg2
  clear hg2 hw2
  go_wp2_with fail
  have hV2 : Upd No w (w2.alloc (.cells #[.pointer (some ⟨w1.heap.size, 0, none⟩)] 25)) := (hV1.trans hU2).alloc _
  have hpk := pack_calls _ la 1 (w2.alloc (.cells #[.pointer (some ⟨w1.heap.size, 0, none⟩)] 25)) (HBA.out.no hV2) (by omega) (by omega)
  rw [← HF.out, show byteV 1 = Value.int .u8 1 from rfl] at hpk
  refine hpk.mono ?_
  clear hpk
  rintro e w3 ⟨v, rfl, hvn, ho, hU3⟩
  obtain ⟨gF, cF, rfl, hgF, hgF2, hcF, hcFm, hcellF⟩ := ho.known hvn
  have hbF := ho.bytes
  rw [HFl.out] at hcF hcellF hbF ⊢
  unfold maxLen at hcFm
  have HBF := Lib.hid hbF
  have D3 := Lib.hid (hU3.at (block_new w2 (.cells #[.pointer (some ⟨w1.heap.size, 0, none⟩)] 25)) (fun h => h))
  have hU23 : Upd No w2 w3 := ((Upd.refl No w2).alloc _).trans hU3
  have HG3 := Lib.hid (HG2.out.no hU23)
  have hV3 := hV2.trans hU3
  have D13 := Lib.hid ((hU2.trans hU23).at D1.out (fun h => h))
  have D23 := Lib.hid ((hU2.trans hU23).at D2.out (fun h => h))
  have d13 := cells_at D13.out
  rw [World.size_alloc] at hgF
  have hs3 := hU23.size
  clear hcellF hbF ho hvn HG2 hU3 hV2 D1 D2
  go_wp2_with fail
  have hpk := pack_calls _ lb 2 w3 (HBB.out.no hV3) h3 h4
  rw [← HQ.out, show byteV 2 = Value.int .u8 2 from rfl] at hpk
  refine hpk.mono ?_
  clear hpk d13
  rintro e w4 ⟨v, rfl, hvn, ho, hU4⟩
  obtain ⟨gQ, cQ, rfl, hgQ, hgQ2, hcQ, hcQm, hcellQ⟩ := ho.known hvn
  have hbQ := ho.bytes
  rw [HQl.out] at hcQ hcellQ hbQ ⊢
  unfold maxLen at hcQm
  have HBQ := Lib.hid hbQ
  have HG4 := Lib.hid (HG3.out.no hU4)
  have D14 := Lib.hid (hU4.at D13.out (fun h => h))
  have D24 := Lib.hid (hU4.at D23.out (fun h => h))
  have D34 := Lib.hid (hU4.at D3.out (fun h => h))
  have HBF4 := Lib.hid (HBF.out.no hU4)
  have hV4 := hV3.trans hU4
  have hs4 := hU4.size
  clear hcellQ hbQ ho hvn HG3 D13 D23 D3 HBF hV3 hU4
  have e2 := HE2.out
  go_wp2_with fail
  refine (cells_calls _ _ _ _).mono ?_
  rintro e w5 ⟨rfl, hw5⟩
  have hs5 : w5.heap.size = w4.heap.size + 1 + 1 + 1 := by rw [hw5]; simp
  have hU5 : Upd No w4 w5 := by rw [hw5]; exact (((Upd.refl _ _).alloc _).alloc _).alloc _
  have k5 : w5.heap[w4.heap.size]? = some (.cells #[.int .i64 (kk : Int)] 3 (0, 0)) := by
    rw [hw5]; exact block_old (block_old (block_new w4 _) _) _
  have n5 : w5.heap[w4.heap.size + 1]? = some (.cells #[.int .i64 0] 3 (0, 0)) := by
    rw [hw5]; exact block_old (by rw [← World.size_alloc]; exact block_new _ _) _
  have c5 : w5.heap[w4.heap.size + 1 + 1]? = some (.cells #[.slice (some ⟨gF, 0, none⟩) (48 * P) cF] 22 (0, 0)) := by
    rw [hw5, ← World.size_alloc, ← World.size_alloc]; exact block_new _ _
  simp only [World.size_alloc]
  have inv0 : Inv1 w (w.heap.size + 1) w.heap.size w2.heap.size w4.heap.size (w4.heap.size + 1) w1.heap.size kk (.slice a1 lb.length c1) (.slice (some ⟨gQ, 0, none⟩) (48 * R) cQ) G Q lb [] w5 := by
    refine ⟨hU5.at D24.out (fun h => h), hU5.at D14.out (fun h => h), hU5.at D34.out (fun h => h), k5, n5, ?_, HBQ.out.no hU5, (HBB.out.no hV4).no hU5, hV4.trans hU5⟩
    have : st G (idx kk ([] : List (List UInt8 × Bool)).length) = fed 100 0 0 G 0 0 := by
      rw [st, if_pos (by simp only [idx, List.length_nil, Nat.zero_le, if_true]; have := HGl.out; omega)]; rfl
    rw [this]
    exact HG4.out.no hU5
  have hF5 := HBF4.out.no hU5
  have hc5 := (cells_at c5).1 0
  have H0 := Lib.hid inv0
  have HF5 := Lib.hid hF5
  have HC5 := Lib.hid (show w5.cell? ⟨w4.heap.size + 1 + 1, 0, none⟩ = some (.slice (some ⟨gF, 0, none⟩) (48 * P) cF) from hc5)
  have HS5 := Lib.hid hs5
  have hgF5 : gF < w4.heap.size := by omega
  have hs45 : w4.heap.size + 2 < w5.heap.size := by omega
  clear inv0 hF5 hc5 k5 n5 c5 hw5 hs5 e2
  go_wp2_with fail
  refine range_out (gf := 25) (lb := #[.pointer (some ⟨w4.heap.size + 1 + 1, 0, none⟩)]) rfl (enters_of Try.func25 (by kernel_rfl) rfl)
    (cells_iter (w4.heap.size + 1 + 1) (.slice (some ⟨gF, 0, none⟩) (48 * P) cF) F (fun k _ => k = gF) (fun k o h => by cases h; rfl) w5 HC5.out HF5.out)
    (fun k o h => .inl (by omega)) (fun _ => rfl)
    (Inv1 w (w.heap.size + 1) w.heap.size w2.heap.size w4.heap.size (w4.heap.size + 1) w1.heap.size kk (.slice a1 lb.length c1) (.slice (some ⟨gQ, 0, none⟩) (48 * R) cQ) G Q lb)
    (fun _ _ _ => False) (inv1_own (by have := hV4.size; omega)) (fun _ => ownFrom_false) H0.out ?round ?done ?stop
  case stop =>
    rintro D c pre W _ _ h _
    exact h.elim
  case round =>
    intro l pre x post W hx hl hi
    obtain ⟨hxe, hj⟩ := chunks_at hx
    rw [HFl.out] at hj
    subst hxe
    obtain ⟨j, hjj⟩ : ∃ j, j = pre.length := ⟨_, rfl⟩
    rw [← hjj] at hj
    have hp := chunk_len F j (by rw [HFl.out]; exact hj)
    have HI := Lib.hid hi
    have HX := Lib.hid hx
    rw [← hjj]
    have HJ := Lib.hid hjj
    clear hi hx hjj
    unfold cellEnc
    gi_wp2_with (with_reducible refine gstop_dst 14 ?_)
    refine on (box48_in rfl rfl (.tmp 67) 14 rfl rfl rfl rfl (chunk F j).1 hp rfl rfl ?_)
    intro W1 hbx hbl hU1b
    gi_wp2
    refine ⟨hU1b.keepsFrom (fun _ _ h => h.elim), hU1b.keeps (fun _ _ h => h.elim), fun W' => Inv1 w (w.heap.size + 1) w.heap.size w2.heap.size w4.heap.size (w4.heap.size + 1) w1.heap.size kk (.slice a1 lb.length c1) (.slice (some ⟨gQ, 0, none⟩) (48 * R) cQ) G Q lb pre W' ∧ W'.heap[W.heap.size]? = some (.cells (rowOf (chunk F j).1) 33 (0, 0)),
      fun _ X Y row hs hg hr => ⟨inv1_own (by have := hV4.size; omega) pre X Y row hs.1 hg hr, kept_cells hg (fun r e => (hr r e).2) hs.2⟩, ⟨inv1_no HI.out hU1b, hbx⟩, ?_⟩
    clear hU1b hbx HI
    rintro Wb _ ⟨⟨i1, i2, i3, i4, i5, ig, iq, ib, iU⟩, ibx⟩
    rw [← HJ.out] at i5 ig
    have f3 := (cells_at i3).1 0
    have f4 := (cells_at i4).1 0
    have f5 := cells_at i5
    have I1 := Lib.hid i1
    have I2 := Lib.hid i2
    have I3 := Lib.hid i3
    have I4 := Lib.hid i4
    have I5 := Lib.hid i5
    have IG := Lib.hid ig
    have IQ := Lib.hid iq
    have IB := Lib.hid ib
    have hld := run_box48 hp ibx
    have HLD := Lib.hid hld
    have hj2 : j < P := by omega
    have hsz : w4.heap.size + 1 < Wb.heap.size := heap_lt i5
    clear i1 i2 i3 i4 i5 ig iq ib ibx hld
    have hne : (w.heap.size + 1) ≠ w4.heap.size + 1 ∧ w.heap.size ≠ w4.heap.size + 1 ∧ w2.heap.size ≠ w4.heap.size + 1 ∧ w4.heap.size ≠ w4.heap.size + 1 ∧ w1.heap.size ≠ w4.heap.size + 1 ∧ gQ ≠ w4.heap.size + 1 := by omega
    have hvb2 : ∀ k, (Value.slice a1 lb.length c1).ownBlock = some k → k < w.heap.size := HBB.out.lt
    have hvb : ∀ k, (Value.slice a1 lb.length c1).ownBlock = some k → k ≠ w4.heap.size + 1 := fun k hk => by have := hvb2 k hk; omega
    by_cases hjk : j = kk
    · have q : ((j : Int) != (kk : Int)) = false := by rw [bne_eq_false_iff_eq, hjk]
      have HJK := Lib.hid hjk
      clear hjk
      gi_wp2
      have hst : idx kk (j + 1) = idx kk j := by have := HJK.out; unfold idx; rw [if_neg (by omega), if_pos (by omega)]; omega
      refine ⟨(KeepsOthers.setCell _ _ _).from _, ((Upd.refl (One (w4.heap.size + 1)) Wb).setCell (.inr (by simp [One])) _).keeps (fun k o h1 _ h2 => by simp [One] at h1; omega), ?_⟩
      exact inv1_step HJ.out I1.out I2.out I3.out I4.out I5.out (by rw [hst]; exact IG.out) IQ.out IB.out iU (by have := hV4.size; omega) hne hvb
    · have q : ((j : Int) != (kk : Int)) = true := by rw [bne_iff_ne]; omega
      have hch : chunk F j = chunk G (idx kk j) ∧ idx kk j < P - 1 ∧ idx kk (j + 1) = idx kk j + 1 := by
        rw [HG.out]
        unfold idx
        by_cases hlt : j < kk
        · rw [if_pos (by omega), if_pos (by omega)]
          exact ⟨chunk_before F kk P j HFl.out hkP hlt, by omega, rfl⟩
        · rw [if_neg (by omega), if_neg (by omega)]
          exact ⟨chunk_behind F kk P j HFl.out hkP (by omega), by omega, by omega⟩
      have HCH := Lib.hid hch
      clear hjk hch
      gi_wp2_with (with_reducible refine gstop_dst 74 ?_)
      refine on (wpListIn_run rfl (fun c h => Op.noConfusion h) (about_load rfl) (exec_load rfl rfl HLD.out) ?_)
      gi_wp2_with fail
      have hgs := gstep_calls w1.heap.size G (P - 1) (idx kk j) HGl.out (by omega) HCH.out.2.1 HBD.out Wb IG.out
      rw [← HCH.out.1] at hgs
      unfold arrV at hgs
      refine ⟨trivial, (to_round hgs).mono ?_⟩
      rintro e Wc ⟨⟨m, err, rfl, herr⟩, hgc, hUc⟩
      have qe : ((err : Int) == 0) = false := by rw [beq_eq_false_iff_ne]; omega
      have f5c := cells_at (hUc.at I5.out (by simp [One]; omega))
      have HGC := Lib.hid hgc
      have hszc := hUc.size
      clear hgs hgc f3 f4 f5
      gi_wp2
      have hUcc : Upd (Two w1.heap.size (w4.heap.size + 1)) Wb (Wc.setCell ⟨w4.heap.size + 1, 0, none⟩ (.int .i64 ((j : Int) + 1))) := (hUc.mono (fun k _ h => .inl h)).setCell (.inr (by simp [Two])) _
      refine ⟨hUcc.keepsFrom (fun k o h1 h2 _ => by rcases h1 with h1 | h1 <;> omega), hUcc.keeps (fun k o h1 _ h2 => by rcases h1 with h1 | h1 <;> omega), ?_⟩
      have n1 : ¬ One w1.heap.size (w.heap.size + 1) := by simp [One]; omega
      have n2 : ¬ One w1.heap.size w.heap.size := by simp [One]; omega
      have n3 : ¬ One w1.heap.size w2.heap.size := by simp [One]; omega
      have n4 : ¬ One w1.heap.size w4.heap.size := by simp [One]; omega
      have n5 : ¬ One w1.heap.size (w4.heap.size + 1) := by simp [One]; omega
      exact inv1_step HJ.out (hUc.at I1.out n1) (hUc.at I2.out n2) (hUc.at I3.out n3) (hUc.at I4.out n4) (hUc.at I5.out n5) (by rw [HCH.out.2.2]; exact HGC.out) (IQ.out.upd hUc (fun k hk => by simp [Value.ownBlock] at hk; simp [One]; omega)) (IB.out.upd hUc (fun k hk => by have := hvb2 k hk; simp [One]; omega))
        (iU.then hUc (fun i hi e => by simp [One] at e; omega)) (by have := hV4.size; omega) hne hvb
  case done =>
    rintro D W hD ⟨i1, i2, i3, i4, i5, ig, iq, ib, iU⟩ hK
    have hlen : (chunks F).length = P := by rw [chunks_length, HFl.out]; omega
    have hst : st G (idx kk (chunks F).length) = fed 100 1 1 Q 0 0 := by
      rw [hlen, st, if_neg (by have := HGl.out; unfold idx; rw [if_neg (by omega)]; omega)]
      simp [fed]
    rw [hst] at ig
    have I1 := Lib.hid i1
    have I2 := Lib.hid i2
    have I3 := Lib.hid i3
    have IG := Lib.hid ig
    have IQ := Lib.hid iq
    have IB := Lib.hid ib
    have HK := Lib.hid hK
    have hDl := heap_lt hK
    clear i1 i2 i3 i4 i5 ig iq ib hK hst hlen H0 HF5 HC5 HG4 D14 D24 D34 HBF4 HBQ
    go_wp2_with fail
    refine (cells_calls _ _ _ _).mono ?_
    rintro e w6 ⟨rfl, hw6⟩
    have hU6 : Upd No W w6 := by rw [hw6]; exact (Upd.refl _ _).alloc _
    have c6 : w6.heap[W.heap.size]? = some (.cells #[.slice (some ⟨gQ, 0, none⟩) (48 * R) cQ] 22 (0, 0)) := by rw [hw6]; exact block_new _ _
    have hs6 : W.heap.size < w6.heap.size := heap_lt c6
    have hc6 := (cells_at c6).1 0
    have HC6 := Lib.hid (show w6.cell? ⟨W.heap.size, 0, none⟩ = some (.slice (some ⟨gQ, 0, none⟩) (48 * R) cQ) from hc6)
    have HK6 := Lib.hid (hU6.at HK.out (fun h => h))
    have inv0 : Inv2 w (w.heap.size + 1) w.heap.size w2.heap.size w1.heap.size D R (.slice a1 lb.length c1) (.slice (some ⟨gQ, 0, none⟩) (48 * R) cQ) Q lb [] w6 := by
      refine ⟨hU6.at I1.out (fun h => h), hU6.at I2.out (fun h => h), hU6.at I3.out (fun h => h), HK6.out, ?_, IQ.out.no hU6, IB.out.no hU6, iU.trans hU6⟩
      rw [show ([] : List (List UInt8 × Bool)).length = 0 from rfl, st2_zero Q R hR1]
      exact IG.out.no hU6
    have H0 := Lib.hid inv0
    have IQ6 := Lib.hid (IQ.out.no hU6)
    have hQW : gQ < W.heap.size := IQ.out.lt gQ rfl
    clear inv0 hc6 c6 hw6
    go_wp2_with fail
    refine range_out (gf := 25) (lb := #[.pointer (some ⟨W.heap.size, 0, none⟩)]) rfl (enters_of Try.func25 (by kernel_rfl) rfl)
      (cells_iter W.heap.size (.slice (some ⟨gQ, 0, none⟩) (48 * R) cQ) Q (fun k _ => k = gQ) (fun k o h => by cases h; rfl) w6 HC6.out IQ6.out)
      (fun k o h => .inl (by omega)) (fun _ => rfl)
      (Inv2 w (w.heap.size + 1) w.heap.size w2.heap.size w1.heap.size D R (.slice a1 lb.length c1) (.slice (some ⟨gQ, 0, none⟩) (48 * R) cQ) Q lb)
      (fun _ _ _ => False) (inv2_own (by have := hV4.size; omega) (by omega)) (fun _ => ownFrom_false) H0.out ?round ?done ?stop
    case stop =>
      rintro D2 c pre W2 _ _ h _
      exact h.elim
    case round =>
      intro l pre x post W2 hx hl hi
      obtain ⟨hxe, hj⟩ := chunks_at hx
      rw [HQl.out] at hj
      subst hxe
      obtain ⟨j, hjj⟩ : ∃ j, j = pre.length := ⟨_, rfl⟩
      rw [← hjj] at hj
      have hp := chunk_len Q j (by rw [HQl.out]; exact hj)
      have HI := Lib.hid hi
      have HX := Lib.hid hx
      rw [← hjj]
      have HJ := Lib.hid hjj
      clear hi hx hjj
      unfold cellEnc
      gi_wp2_with (with_reducible refine gstop_dst 19 ?_)
      refine on (box48_in rfl rfl (.tmp 91) 19 rfl rfl rfl rfl (chunk Q j).1 hp rfl rfl ?_)
      intro W3 hbx hbl hU1b
      gi_wp2
      refine ⟨hU1b.keepsFrom (fun _ _ h => h.elim), hU1b.keeps (fun _ _ h => h.elim), fun W' => Inv2 w (w.heap.size + 1) w.heap.size w2.heap.size w1.heap.size D R (.slice a1 lb.length c1) (.slice (some ⟨gQ, 0, none⟩) (48 * R) cQ) Q lb pre W' ∧ W'.heap[W2.heap.size]? = some (.cells (rowOf (chunk Q j).1) 33 (0, 0)),
        fun _ X Y row hs hg hr => ⟨inv2_own (by have := hV4.size; omega) (by omega) pre X Y row hs.1 hg hr, kept_cells hg (fun r e => (hr r e).2) hs.2⟩, ⟨inv2_no HI.out hU1b, hbx⟩, ?_⟩
      clear hU1b hbx HI
      rintro Wb _ ⟨⟨i1, i2, i3, i4, ig, iq, ib, iU2⟩, ibx⟩
      rw [← HJ.out] at ig
      have f2 := cells_at i2
      have f3 := (cells_at i3).1 0
      have I1 := Lib.hid i1
      have I2 := Lib.hid i2
      have I3 := Lib.hid i3
      have I4 := Lib.hid i4
      have IG := Lib.hid ig
      have IQ := Lib.hid iq
      have IB := Lib.hid ib
      have hld := run_box48 hp ibx
      have HLD := Lib.hid hld
      have hj2 : j < R := by omega
      clear i1 i2 i3 i4 ig iq ib ibx hld
      gi_wp2_with (with_reducible refine gstop_dst 95 ?_)
      refine on (wpListIn_run rfl (fun c h => Op.noConfusion h) (about_load rfl) (exec_load rfl rfl HLD.out) ?_)
      gi_wp2_with fail
      have hgs := step2_calls w1.heap.size R j Q lb HQl.out hR21 hj2 HUN.out Wb IG.out
      unfold arrV at hgs
      refine ⟨trivial, (to_round hgs).mono ?_⟩
      rintro e Wc ⟨v, m, err, rfl, hgc, hUc, hlast⟩
      have f2c := cells_at (hUc.at I2.out (by simp [One]; omega))
      have HGC := Lib.hid hgc
      have HLA := Lib.hid hlast
      have hszc := hUc.size
      clear hgs hgc f3 hlast f2
      have hl2 : (pre ++ [chunk Q j]).length = j + 1 := by rw [HJ.out]; simp
      have n1 : ¬ One w1.heap.size (w.heap.size + 1) := by simp [One]; omega
      have n2 : ¬ One w1.heap.size w.heap.size := by simp [One]; omega
      have n3 : ¬ One w1.heap.size w2.heap.size := by simp [One]; omega
      have n4 : ¬ One w1.heap.size D := by simp [One]; omega
      have hvb2 : ∀ k, (Value.slice a1 lb.length c1).ownBlock = some k → k < w.heap.size := HBB.out.lt
      have hend : ∀ X, Upd No Wc X → Inv2 w (w.heap.size + 1) w.heap.size w2.heap.size w1.heap.size D R (.slice a1 lb.length c1) (.slice (some ⟨gQ, 0, none⟩) (48 * R) cQ) Q lb (pre ++ [chunk Q j]) X := by
        intro X hX
        refine inv2_no ?_ hX
        refine ⟨hUc.at I1.out n1, hUc.at I2.out n2, hUc.at I3.out n3, hUc.at I4.out n4, ?_, IQ.out.upd hUc (fun k hk => by simp [Value.ownBlock] at hk; simp [One]; omega), IB.out.upd hUc (fun k hk => by have := hvb2 k hk; simp [One]; omega), iU2.then hUc (fun i hi e => by simp [One] at e; omega)⟩
        rw [hl2]
        exact HGC.out
      have HEND := Lib.hid hend
      clear hend hl2
      cases hcl : (chunk Q j).2
      · gi_wp2
        case h_2 =>
          refine ⟨trivial, ?_⟩
          gi_wp2
          exact ⟨hUc.keepsFrom (fun k o h1 h2 _ => by simp [One] at h1; omega), hUc.keeps (fun k o h1 _ h2 => by simp [One] at h1; omega), HEND.out _ (Upd.refl _ _)⟩
        all_goals
          rename_i hu _
          exact (Value.noConfusion (Option.some.inj hu))
      · obtain ⟨hbv, hm, he⟩ := HLA.out hcl
        have HBV := Lib.hid hbv
        subst hm he
        clear hbv
        gi_wp2
        have hsame := same_calls v (.slice a1 lb.length c1) lb lb Wc HBV.out (IB.out.upd hUc (fun k hk => by have := hvb2 k hk; simp [One]; omega)) (by omega)
        rw [beq_self_eq_true] at hsame
        refine ⟨trivial, (to_round hsame).mono ?_⟩
        rintro e Wd ⟨rfl, hUd⟩
        gi_wp2
        have hUd2 : Upd (One w1.heap.size) Wb Wd := hUc.trans (hUd.mono (fun _ _ h => h.elim))
        exact ⟨hUd2.keepsFrom (fun k o h1 h2 _ => by simp [One] at h1; omega), hUd2.keeps (fun k o h1 _ h2 => by simp [One] at h1; omega), HEND.out _ hUd⟩
    case done =>
      rintro D2 W2 hD2 ⟨i1, i2, i3, i4, ig, iq, ib, iU2⟩ hK2
      have hlen : (chunks Q).length = R := by rw [chunks_length, HQl.out]; omega
      rw [hlen, show st2 Q R R = (⟨100, 1, 1, [], false⟩ : GS) from by rw [st2, if_neg (by omega)]] at ig
      have f3 := (cells_at i3).1 0
      have ho := lost_calls _ _ _ ig
      have f1 := cells_at i1
      rw [show (((⟨100, 1, 1, [], false⟩ : GS).lost : Nat) : Int) = (1 : Int) from rfl] at ho
      go_wp2_with fail
      refine ho.mono ?_
      rintro e w7 ⟨rfl, hw7⟩
      subst hw7
      go_wp2
      have hUl := iU2.setCell (p := ⟨w.heap.size + 1, 0, none⟩) (.inl (by simp)) (.bool true)
      have hrc : (w7.setCell ⟨w.heap.size + 1, 0, none⟩ (.bool true)).cell? ⟨w.heap.size + 1, 0, none⟩ = some (.bool true) := by
        rw [World.cell?_setCell_same _ _ _ (by rw [f1.1 0]; rfl)]
      refine fin_marks (B := w.heap.size) _ [D2, D] _ (by simp; omega) (by simp; exact ⟨⟨by omega, block_other hK2 (by simp; omega) _⟩, ⟨by omega, block_other i4 (by simp; omega) _⟩⟩) (fun W' hW' => ⟨.bool true, ?_, rfl, hW'.upd hUl (Nat.le_refl _)⟩)
      have hrc2 := hW'.cell hrc
      simp [results, Try.results4, go_sem, hrc2]
end Go.Proofs.Ytddohdfccagbbaa.Missing
