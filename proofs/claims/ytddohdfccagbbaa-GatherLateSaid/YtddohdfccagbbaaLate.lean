/- The statement GatherLate: parts that waited too long are dropped, at a tick, or when the next one comes: the frame that comes then is told whole. -/
import Derived.Test.YtddohdfccagbbaaRows
import Derived.Test.YtddohdfccagbbaaBase
import Derived.Test.YtddohdfccagbbaaBytes
import Derived.Test.YtddohdfccagbbaaFrame
import Derived.Test.YtddohdfccagbbaaCells
import Derived.Test.YtddohdfccagbbaaGather
import Derived.Test.YtddohdfccagbbaaTake
import Derived.Test.YtddohdfccagbbaaGPure
import Derived.Test.YtddohdfccagbbaaAwake11
import Derived.Test.YtddohdfccagbbaaSame
import Derived.Test.YtddohdfccagbbaaMem
namespace Go.Proofs.Ytddohdfccagbbaa.Late
open Go.RowKit Go.Shelf
attribute [local go_sem] Oper.semAt_some


theorem chunk_last (F : List UInt8) (P i : Nat) (hF : F.length = 48 * P) (hi : i < P) : (chunk F i).2 = decide (i + 1 = P) := by
  unfold chunk
  rw [Bool.eq_iff_iff, beq_iff_eq, decide_eq_true_eq]
  omega
theorem chunk_take (F : List UInt8) (n j : Nat) (hj : j < n) : (chunk (F.take (48 * n)) j).1 = (chunk F j).1 := by
  unfold chunk
  show ((F.take (48 * n)).drop (48 * j)).take 48 = (F.drop (48 * j)).take 48
  rw [List.drop_take, List.take_take]
  congr 1
  omega
theorem take_due (s : GS) (t : Nat) (p : List UInt8) (l : Bool) (h : s.due t = true) : s.take t p l = s.lose.take t p l := by
  have h1 : s.tick t = s.lose := by simp [GS.tick, h]
  have h2 : s.lose.tick t = s.lose := by simp [GS.tick, GS.due, GS.lose]
  simp only [GS.take, h1, h2]
theorem fed_is_due (wt : Nat) (F : List UInt8) (n : Nat) (hn : 1 ≤ n) (hF : 1 ≤ F.length) : (fed wt 0 5 F n 0).due (5 + wt) = true := by
  have h : (F.take (48 * n)).isEmpty = false := by
    rw [List.isEmpty_eq_false_iff, ← List.length_pos_iff, List.length_take]
    omega
  simp only [GS.due, fed, h, if_neg (show ¬ n = 0 by omega), Bool.false_or, Bool.not_eq_true', decide_eq_false_iff_not]
  omega
theorem fed_not_due (wt : Nat) (F : List UInt8) (n : Nat) (hn : 1 ≤ n) (hw : 1 ≤ wt) : (fed wt 0 5 F n 0).due (5 + wt - 1) = false := by
  simp only [GS.due, fed, if_neg (show ¬ n = 0 by omega), Bool.not_eq_false', Bool.or_eq_true, decide_eq_true_eq]
  right
  omega
theorem lose_fed (wt : Nat) (F Q : List UInt8) (n : Nat) (hn : 1 ≤ n) : (fed wt 0 5 F n 0).lose = fed wt 1 (5 + wt) Q 0 5 := by
  simp [GS.lose, fed, if_neg (show ¬ n = 0 by omega)]

/-- The Gatherer after the first i parts of the second frame. -/
def st2 (s0 : GS) (wt : Nat) (Q : List UInt8) (R i : Nat) : GS := if i = 0 then s0 else if i < R then fed wt 1 (5 + wt) Q i 5 else ⟨wt, 5 + wt, 1, [], false⟩
theorem step2_calls (g R i wt : Nat) (s0 : GS) (Q lb : List UInt8) (hwt : 1 ≤ wt) (hwt2 : wt ≤ 70000) (hQ : Q.length = 48 * R) (hR : R ≤ 21) (hi : i < R) (hun : unpackOf Q = (lb, 2, 0))
    (h0 : s0.lost ≤ 1 ∧ s0.b.length ≤ 2000 ∧ ∀ p l, s0.take (5 + wt) p l = (fed wt 1 (5 + wt) Q 0 5).take (5 + wt) p l) (w : World) (h : Gath w g (st2 s0 wt Q R i)) :
    Calls Try.prog 11 #[.pointer (some ⟨g, 0, none⟩), .int .i64 (5 + (wt : Int)), arrV (chunk Q i).1, .bool (chunk Q i).2] w fun e w' => ∃ (v : Value) (m : UInt8) (err : Nat), e = .returned (.tuple #[v, byteV m, .int .i64 (err : Int)]) ∧ Gath w' g (st2 s0 wt Q R (i + 1)) ∧ Upd (One g) w w' ∧ ((chunk Q i).2 = true → Bytes w' v lb ∧ m = 2 ∧ err = 0) := by
  have hq : Q.length / 48 = R := by omega
  have ht := take_calls g (st2 s0 wt Q R i) (5 + wt) (by omega) (chunk Q i).1 (chunk_len Q i (by omega)) (chunk Q i).2 w h (by unfold st2; rw [if_pos hi]; split; omega; simp [fed]) (by unfold st2; rw [if_pos hi]; split; omega; simp [fed]; omega)
  have hs : (st2 s0 wt Q R i).take (5 + wt) (chunk Q i).1 (chunk Q i).2 = (fed wt 1 (5 + wt) Q i 5).take (5 + wt) (chunk Q i).1 (chunk Q i).2 := by
    unfold st2
    rw [if_pos hi]
    split
    · rename_i e
      rw [e]
      exact h0.2.2 _ _
    · rfl
  rw [hs, show ((5 + wt : Nat) : Int) = 5 + (wt : Int) from by omega] at ht
  by_cases hl : i + 1 = R
  · have hc : (chunk Q i).2 = true := by rw [chunk_last Q R i hQ hi]; simpa using hl
    rw [hc, fed_last wt 1 (5 + wt) Q i 5 hwt (by omega) (by omega) hc, hun] at ht
    rw [hc]
    refine ht.mono ?_
    rintro e w' ⟨v, he, _, ho, hg, hU⟩
    refine ⟨v, 2, 0, he, ?_, hU, fun _ => ⟨ho.bytes, rfl, rfl⟩⟩
    unfold st2
    rw [if_neg (by omega), if_neg (by omega)]
    exact hg
  · have hc : (chunk Q i).2 = false := by rw [chunk_last Q R i hQ hi]; simpa using hl
    rw [hc, fed_more wt 1 (5 + wt) Q i 5 hwt (by omega) (by omega) hc (by omega)] at ht
    rw [hc]
    refine ht.mono ?_
    rintro e w' ⟨v, he, _, ho, hg, hU⟩
    refine ⟨v, 0, 2, he, ?_, hU, fun h => Bool.noConfusion h⟩
    unfold st2
    rw [if_neg (by omega), if_pos (by omega)]
    exact hg
theorem step1_calls (g n j wt : Nat) (F : List UInt8) (P : Nat) (hF : F.length = 48 * P) (hP : P ≤ 21) (hn : n < P) (hj : j < n) (hwt : 1 ≤ wt) (w : World) (h : Gath w g (fed wt 0 5 F j 0)) :
    Calls Try.prog 11 #[.pointer (some ⟨g, 0, none⟩), .int .i64 5, arrV (chunk (F.take (48 * n)) j).1, .bool false] w fun e w' => (∃ v, e = .returned v) ∧ Gath w' g (fed wt 0 5 F (j + 1) 0) ∧ Upd (One g) w w' := by
  rw [chunk_take F n j hj]
  exact (more_calls g wt 0 5 F j 0 (by decide) hwt (by omega) (by omega) (by omega) (by rw [chunk_last F P j hF (by omega)]; simp; omega) (by decide) w h).mono fun e w' ⟨he, hg, hU⟩ => ⟨⟨_, he⟩, hg, hU⟩

/-- The guard's way out. -/
theorem early (a0 : Option Addr) (n0 c0 : Nat) (a1 : Option Addr) (n1 c1 : Nat) (k : Int) (wt : Int) (tk : Bool) (w : World) (h : 1000 < n0 ∨ 1000 < n1 ∨ n0 ≤ 40 ∨ n1 = 0) :
    Calls Try.prog 3 #[.slice a0 n0 c0, .slice a1 n1 c1, .int .u8 k, .int .u16 wt, .bool tk] w fun e w' => e = .returned (.bool true) ∧ Upd No w w' := by
  by_cases g1 : 1000 < n0
  case' pos => have q1 : decide (1000 < (n0 : Int)) = true := by simpa using (by omega)
  case' neg =>
    have q1 : decide (1000 < (n0 : Int)) = false := by simpa using (by omega)
    by_cases g2 : 1000 < n1
    case' pos => have q2 : decide (1000 < (n1 : Int)) = true := by simpa using (by omega)
    case' neg =>
      have q2 : decide (1000 < (n1 : Int)) = false := by simpa using (by omega)
      by_cases g3 : n0 ≤ 40
      case' pos => have q3 : decide ((n0 : Int) ≤ 40) = true := by simpa using (by omega)
      case' neg =>
        have q3 : decide ((n0 : Int) ≤ 40) = false := by simpa using (by omega)
        have q4 : ((n1 : Int) == 0) = true := by rw [beq_iff_eq]; omega
  all_goals
    clear h
    have b1 := block_old (block_new w (.cells #[.slice a1 n1 c1] 22)) (.cells #[.bool false] 4)
    have b2 := block_new (w.alloc (.cells #[.slice a1 n1 c1] 22)) (.cells #[.bool false] 4)
    rw [World.size_alloc] at b2
    have hU0 : Upd No w ((w.alloc (.cells #[.slice a1 n1 c1] 22)).alloc (.cells #[.bool false] 4)) := ((Upd.refl _ _).alloc _).alloc _
    have B1 := Lib.hid b1
    have B2 := Lib.hid b2
    clear b1 b2
    go_enter Try.func3, Try.ntmps3
    go_wp2_with fail
    refine (awake_calls _).mono ?_
    rintro e w1 ⟨rfl, hU1⟩
    have d1 := cells_at (hU1.at B1.out (fun h => h))
    have d2 := cells_at (hU1.at B2.out (fun h => h))
    go_wp2_with fail
    refine (awake_calls _).mono ?_
    rintro e w2 ⟨rfl, hU2⟩
    have d3 := cells_at ((hU1.trans hU2).at B2.out (fun h => h))
    have hlt : w.heap.size + 1 < w2.heap.size := heap_lt ((hU1.trans hU2).at B2.out (fun h => h))
    clear d1 d2
    go_wp2
    refine bodyPost_ret (v := .bool true) (by simp [results, Try.results3, go_sem, d3]) rfl ⟨rfl, ?_⟩
    exact ((hU0.trans hU1).trans hU2).setCell (.inl (by simp)) _

/-- What holds between two rounds of a loop. -/
def Inv (w : World) (bR bB bG bT g wt : Nat) (vb vQ : Value) (Q lb : List UInt8) (st : Nat → GS) (D : Option Nat) (pre : List (List UInt8 × Bool)) (W : World) : Prop :=
  W.heap[bR]? = some (.cells #[.bool false] 4 (0, 0)) ∧ W.heap[bB]? = some (.cells #[vb] 22 (0, 0)) ∧ W.heap[bG]? = some (.cells #[.pointer (some ⟨g, 0, none⟩)] 25 (0, 0)) ∧
  W.heap[bT]? = some (.cells #[.int .i64 (wt : Int)] 3 (0, 0)) ∧ (∀ k, D = some k → W.heap[k]? = some (.deferred (some []))) ∧ Gath W g (st pre.length) ∧ Bytes W vQ Q ∧ Bytes W vb lb ∧ Upd No w W
theorem inv_own {w : World} {B bR bB bG bT g wt : Nat} {vb vQ : Value} {Q lb : List UInt8} {st : Nat → GS} {D : Option Nat} (hB : w.heap.size ≤ B) (hD : ∀ k, D = some k → k < B) : OwnFrom B (Inv w bR bB bG bT g wt vb vQ Q lb st D) :=
  (ownFrom_cells _ _ _).and ((ownFrom_cells _ _ _).and ((ownFrom_cells _ _ _).and ((ownFrom_cells _ _ _).and (OwnFrom.and (fun s X Y row hs hg hr k hk => ownFrom_block (hD k hk) (fun _ : Unit => .deferred (some [])) () X Y row (hs k hk) hg hr) ((ownFrom_gath _).and ((ownFrom_bytes _ _).and ((ownFrom_bytes _ _).and (ownFrom_upd hB))))))))
theorem inv_no {w : World} {bR bB bG bT g wt : Nat} {vb vQ : Value} {Q lb : List UInt8} {st : Nat → GS} {D : Option Nat} {pre : List (List UInt8 × Bool)} {W W' : World} (h : Inv w bR bB bG bT g wt vb vQ Q lb st D pre W) (hU : Upd No W W') : Inv w bR bB bG bT g wt vb vQ Q lb st D pre W' :=
  ⟨hU.at h.1 (fun h => h), hU.at h.2.1 (fun h => h), hU.at h.2.2.1 (fun h => h), hU.at h.2.2.2.1 (fun h => h), fun k hk => hU.at (h.2.2.2.2.1 k hk) (fun h => h), h.2.2.2.2.2.1.no hU, h.2.2.2.2.2.2.1.no hU, h.2.2.2.2.2.2.2.1.no hU, h.2.2.2.2.2.2.2.2.trans hU⟩
/-- What a step of the Gatherer alone leaves. -/
theorem inv_step {w X Y : World} {bR bB bG bT g wt : Nat} {va : Option Addr} {vn vc qb qo qn qc : Nat} {Q lb : List UInt8} {st st' : Nat → GS} {D : Option Nat} {pre pre' : List (List UInt8 × Bool)} (h : Inv w bR bB bG bT g wt (.slice va vn vc) (.slice (some ⟨qb, qo, none⟩) qn qc) Q lb st D pre X)
    (hU : Upd (One g) X Y) (hg : Gath Y g (st' pre'.length)) (h1 : bR ≠ g ∧ bB ≠ g ∧ bG ≠ g ∧ bT ≠ g ∧ qb ≠ g) (hD : ∀ k, D = some k → k ≠ g) (hv : ∀ k, (Value.slice va vn vc).ownBlock = some k → k ≠ g) (hw : w.heap.size ≤ g) :
    Inv w bR bB bG bT g wt (.slice va vn vc) (.slice (some ⟨qb, qo, none⟩) qn qc) Q lb st' D pre' Y := by
  obtain ⟨i1, i2, i3, i4, i5, ig, iq, ib, iU⟩ := h
  obtain ⟨n1, n2, n3, n4, n5⟩ := h1
  exact ⟨hU.at i1 n1, hU.at i2 n2, hU.at i3 n3, hU.at i4 n4, fun k hk => hU.at (i5 k hk) (hD k hk), hg, iq.upd hU (fun k hk => by simp [Value.ownBlock] at hk; subst hk; exact n5), ib.upd hU hv, iU.then hU (fun i hi e => by simp [One] at e; omega)⟩

set_option maxRecDepth 100000 in
set_option maxHeartbeats 4000000 in
theorem main (va vb : Value) (a0 : Option Addr) (c0 : Nat) (a1 : Option Addr) (c1 : Nat) (la lb : List UInt8) (hva : va = .slice a0 la.length c0) (hvb : vb = .slice a1 lb.length c1) (cut : Nat) (hcut : cut < 256) (wait : Nat) (hwait : wait < 65536) (tk : Bool) (w : World) (hba : Bytes w va la) (hbb : Bytes w vb lb) (h1 : 41 ≤ la.length) (h2 : la.length ≤ 1000) (h3 : 1 ≤ lb.length) (h4 : lb.length ≤ 1000) :
    Calls Try.prog 3 #[va, vb, .int .u8 (cut : Int), .int .u16 (wait : Int), .bool tk] w fun e w' => e = .returned (.bool true) ∧ Upd No w w' := by
  obtain ⟨F, hF⟩ : ∃ F, F = frameOf la 1 := ⟨_, rfl⟩
  obtain ⟨Q, hQ⟩ : ∃ Q, Q = frameOf lb 2 := ⟨_, rfl⟩
  obtain ⟨P, hP⟩ : ∃ P, P = partsOf la.length := ⟨_, rfl⟩
  obtain ⟨R, hR⟩ : ∃ R, R = partsOf lb.length := ⟨_, rfl⟩
  have hFl : F.length = 48 * P := by rw [hF, hP]; exact frame_length la 1 (by omega)
  have hQl : Q.length = 48 * R := by rw [hQ, hR]; exact frame_length lb 2 (by omega)
  have hP2 : 2 ≤ P := by rw [hP]; unfold partsOf; rw [if_neg (by omega)]; omega
  have hP21 : P ≤ 21 := by rw [hP]; exact parts_le _ (by omega)
  have hR1 : 1 ≤ R := by rw [hR]; exact parts_pos _ (by omega)
  have hR21 : R ≤ 21 := by rw [hR]; exact parts_le _ (by omega)
  obtain ⟨kk, hkk⟩ : ∃ kk, kk = cut % (P - 1) := ⟨_, rfl⟩
  obtain ⟨n, hn⟩ : ∃ n, n = 1 + kk := ⟨_, rfl⟩
  obtain ⟨wt, hwt⟩ : ∃ wt, wt = 1 + wait := ⟨_, rfl⟩
  have hnP : n < P := by rw [hn, hkk]; have := Nat.mod_lt cut (show 0 < P - 1 by omega); omega
  have hn1 : 1 ≤ n := by omega
  have hwt1 : 1 ≤ wt := by omega
  have hwt2 : wt ≤ 65536 := by omega
  have hun : unpackOf Q = (lb, 2, 0) := by rw [hQ]; exact unpack_frame lb 2 h3 h4
  have e0 : (1 : Int) + (wait : Int) = (wt : Int) := by omega
  have e1 : (((48 * P : Nat) : Int) / 48) = (P : Int) := by omega
  have e2 : (cut : Int) % ((P : Int) - 1) = (kk : Int) := by rw [hkk, show ((P : Int) - 1) = ((P - 1 : Nat) : Int) from by omega]; exact (Int.natCast_emod _ _).symm
  have e3 : (1 : Int) + (kk : Int) = (n : Int) := by omega
  have q1 : decide (1000 < (la.length : Int)) = false := by simpa using (by omega)
  have q2 : decide (1000 < (lb.length : Int)) = false := by simpa using (by omega)
  have q3 : decide ((la.length : Int) ≤ 40) = false := by simpa using (by omega)
  have q4 : ((lb.length : Int) == 0) = false := by rw [beq_eq_false_iff_ne]; omega
  have b1 := block_old (block_new w (.cells #[vb] 22)) (.cells #[.bool false] 4)
  have b2 := block_new (w.alloc (.cells #[vb] 22)) (.cells #[.bool false] 4)
  rw [World.size_alloc] at b2
  have hU0 : Upd No w ((w.alloc (.cells #[vb] 22)).alloc (.cells #[.bool false] 4)) := ((Upd.refl _ _).alloc _).alloc _
  have B1 := Lib.hid b1
  have B2 := Lib.hid b2
  have HF := Lib.hid hF
  have HQ := Lib.hid hQ
  have HFl := Lib.hid hFl
  have HQl := Lib.hid hQl
  have HUN := Lib.hid hun
  have HKK := Lib.hid hkk
  have HN := Lib.hid hn
  have HWT := Lib.hid hwt
  have HBA := Lib.hid hba
  have HBB := Lib.hid hbb
  have HPP := Lib.hid hP
  have HRR := Lib.hid hR
  have HE0 := Lib.hid e0
  have HE2 := Lib.hid e2
  have HE3 := Lib.hid e3
  have hnew := new_calls wt hwt1 (by omega)
  rw [show GS.new wt = fed wt 0 5 F 0 0 from by simp [GS.new, fed]] at hnew
  have HNEW := Lib.hid hnew
  clear b1 b2 hF hQ hFl hQl hun hkk hn hwt hba hbb hP hR e2 e0 e3 hnew
  subst hva hvb
  refine calls_marks Try.func3 rfl ?_
  simp only [Try.ntmps3, List.size_toArray, List.length_cons, List.length_nil, Nat.reduceAdd, Nat.reduceSub, Array.replicate_succ, Array.replicate_zero, List.push_toArray, List.append_toArray, List.nil_append, List.cons_append]
  go_wp2_with fail
  refine (awake_calls _).mono ?_
  rintro e w1 ⟨rfl, hU1⟩
  have d1 := cells_at (hU1.at B1.out (fun h => h))
  have D1 := Lib.hid (hU1.at B1.out (fun h => h))
  have D2 := Lib.hid (hU1.at B2.out (fun h => h))
  have hs1 : w.heap.size + 1 < w1.heap.size := heap_lt D2.out
  have hV1 := hU0.trans hU1
  have e0 := HE0.out
  go_wp2_with fail
  have hT := block_new w1 (.cells #[.int .i64 (wt : Int)] 3)
  have hUt : Upd No w1 (w1.alloc (.cells #[.int .i64 (wt : Int)] 3)) := (Upd.refl _ _).alloc _
  refine (HNEW.out (w1.alloc (.cells #[.int .i64 (wt : Int)] 3))).mono ?_
  clear d1 e0
  rintro e w2 ⟨rfl, hg2, hw2⟩
  rw [World.size_alloc] at hg2
  simp only [World.size_alloc]
  have hU2 : Upd No w1 w2 := by rw [hw2]; exact hUt.alloc _
  have DT := Lib.hid (show w2.heap[w1.heap.size]? = some (.cells #[.int .i64 (wt : Int)] 3 (0, 0)) from by rw [hw2]; exact block_old hT _)
  have hs2 := hg2.lt
  have HG2 := Lib.hid hg2
  clear hg2 hw2 hT hUt
  go_wp2_with fail
  have hV2 : Upd No w (w2.alloc (.cells #[.pointer (some ⟨w1.heap.size + 1, 0, none⟩)] 25)) := (hV1.trans hU2).alloc _
  have hpk := pack_calls _ la 1 (w2.alloc (.cells #[.pointer (some ⟨w1.heap.size + 1, 0, none⟩)] 25)) (HBA.out.no hV2) (by omega) (by omega)
  rw [← HF.out, show byteV 1 = Value.int .u8 1 from rfl] at hpk
  refine hpk.mono ?_
  clear hpk
  rintro e w3 ⟨v, rfl, hvn, ho, hU3⟩
  obtain ⟨gF, cF, rfl, hgF, hgF2, hcF, hcFm, hcellF⟩ := ho.known hvn
  have hbF := ho.bytes
  rw [HFl.out] at hcF hcellF hbF ⊢
  unfold maxLen at hcFm
  have HBF := Lib.hid hbF
  have D3 := Lib.hid (hU3.at (block_new w2 (.cells #[.pointer (some ⟨w1.heap.size + 1, 0, none⟩)] 25)) (fun h => h))
  have hU23 : Upd No w2 w3 := ((Upd.refl No w2).alloc _).trans hU3
  have HG3 := Lib.hid (HG2.out.no hU23)
  have hV3 := hV2.trans hU3
  have D13 := Lib.hid ((hU2.trans hU23).at D1.out (fun h => h))
  have D23 := Lib.hid ((hU2.trans hU23).at D2.out (fun h => h))
  have DT3 := Lib.hid (hU23.at DT.out (fun h => h))
  have d13 := cells_at D13.out
  rw [World.size_alloc] at hgF
  have hs3 := hU23.size
  clear hcellF hbF ho hvn HG2 hU3 hV2 D1 D2 DT
  go_wp2_with fail
  have hpk := pack_calls _ lb 2 w3 (HBB.out.no hV3) h3 h4
  rw [← HQ.out, show byteV 2 = Value.int .u8 2 from rfl] at hpk
  refine hpk.mono ?_
  clear hpk d13
  rintro e w4 ⟨v, rfl, hvn, ho, hU4⟩
  obtain ⟨gQ, cQ, rfl, hgQ, hgQ2, hcQ, hcQm, hcellQ⟩ := ho.known hvn
  have hbQ := ho.bytes
  rw [HQl.out] at hcQ hcellQ hbQ ⊢
  unfold maxLen at hcQm
  have HBQ := Lib.hid hbQ
  have hV4 := hV3.trans hU4
  have inv0 : Inv w (w.heap.size + 1) w.heap.size w2.heap.size w1.heap.size (w1.heap.size + 1) wt (.slice a1 lb.length c1) (.slice (some ⟨gQ, 0, none⟩) (48 * R) cQ) Q lb (fun i => fed wt 0 5 F i 0) none [] w4 :=
    ⟨hU4.at D23.out (fun h => h), hU4.at D13.out (fun h => h), hU4.at D3.out (fun h => h), hU4.at DT3.out (fun h => h), (by intro k hk; cases hk), HG3.out.no hU4, HBQ.out, HBB.out.no hV4, hV4⟩
  have H4 := Lib.hid inv0
  have HBF4 := Lib.hid (HBF.out.no hU4)
  have hs4 := hU4.size
  have hvb2 : ∀ k, (Value.slice a1 lb.length c1).ownBlock = some k → k < w.heap.size := HBB.out.lt
  have hVw := hV4.size
  clear hcellQ hbQ ho hvn HG3 D13 D23 D3 DT3 HBF hV3 hU4 inv0 hV4 HBQ
  have e2 := HE2.out
  have e3 := HE3.out
  have s1 := sl_to (b := gF) (off := 0) (n := 48 * P) (cap := cF) (48 * n) (hi := 48 * (n : Int)) (by omega) (by omega)
  go_wp2_with fail
  clear s1 e2 e3
  have hbF := HBF4.out.sub 0 (48 * n) (by omega) (by omega)
  rw [List.drop_zero, show 0 + 0 = 0 from rfl, Nat.sub_zero, Nat.sub_zero] at hbF
  obtain ⟨F', hF'⟩ : ∃ F', F' = F.take (48 * n) := ⟨_, rfl⟩
  rw [← hF'] at hbF
  have hFl' : F'.length = 48 * n := by rw [hF', List.length_take, HFl.out]; omega
  have HF' := Lib.hid hF'
  have HFl' := Lib.hid hFl'
  have HBF' := Lib.hid hbF
  clear hF' hFl' hbF
  refine (cells_calls _ _ _ _).mono ?_
  rintro e w5 ⟨rfl, hw5⟩
  have hU5 : Upd No w4 w5 := by rw [hw5]; exact (Upd.refl _ _).alloc _
  have c5 : w5.heap[w4.heap.size]? = some (.cells #[.slice (some ⟨gF, 0, none⟩) (48 * n) cF] 22 (0, 0)) := by rw [hw5]; exact block_new _ _
  have hs5 : w4.heap.size < w5.heap.size := heap_lt c5
  have hc5 := (cells_at c5).1 0
  have HC5 := Lib.hid (show w5.cell? ⟨w4.heap.size, 0, none⟩ = some (.slice (some ⟨gF, 0, none⟩) (48 * n) cF) from hc5)
  have H5 := Lib.hid (inv_no H4.out hU5)
  have HF5 := Lib.hid (HBF'.out.no hU5)
  clear hc5 c5 hw5
  go_wp2_with fail
  refine range_out (gf := 25) (lb := #[.pointer (some ⟨w4.heap.size, 0, none⟩)]) rfl (enters_of Try.func25 (by kernel_rfl) rfl)
    (cells_iter w4.heap.size (.slice (some ⟨gF, 0, none⟩) (48 * n) cF) F' (fun k _ => k = gF) (fun k o h => by cases h; rfl) w5 HC5.out HF5.out)
    (fun k o h => .inl (by omega)) (fun _ => rfl)
    (Inv w (w.heap.size + 1) w.heap.size w2.heap.size w1.heap.size (w1.heap.size + 1) wt (.slice a1 lb.length c1) (.slice (some ⟨gQ, 0, none⟩) (48 * R) cQ) Q lb (fun i => fed wt 0 5 F i 0) none)
    (fun _ _ _ => False) (inv_own (by omega) (fun k hk => by cases hk)) (fun _ => ownFrom_false) H5.out ?round ?done ?stop
  case stop =>
    rintro D c pre W _ _ h _
    exact h.elim
  case round =>
    intro l pre x post W hx hl hi
    obtain ⟨hxe, hj⟩ := chunks_at hx
    rw [HFl'.out] at hj
    subst hxe
    obtain ⟨j, hjj⟩ : ∃ j, j = pre.length := ⟨_, rfl⟩
    rw [← hjj] at hj
    have hp := chunk_len F' j (by rw [HFl'.out]; exact hj)
    have HI := Lib.hid hi
    rw [← hjj]
    have HJ := Lib.hid hjj
    clear hi hx hjj
    unfold cellEnc
    gi_wp2_with (with_reducible refine gstop_dst 18 ?_)
    refine on (box48_in rfl rfl (.tmp 75) 18 rfl rfl rfl rfl (chunk F' j).1 hp rfl rfl ?_)
    intro W1 hbx hbl hU1b
    gi_wp2
    refine ⟨hU1b.keepsFrom (fun _ _ h => h.elim), hU1b.keeps (fun _ _ h => h.elim), fun W' => Inv w (w.heap.size + 1) w.heap.size w2.heap.size w1.heap.size (w1.heap.size + 1) wt (.slice a1 lb.length c1) (.slice (some ⟨gQ, 0, none⟩) (48 * R) cQ) Q lb (fun i => fed wt 0 5 F i 0) none pre W' ∧ W'.heap[W.heap.size]? = some (.cells (rowOf (chunk F' j).1) 33 (0, 0)),
      fun _ X Y row hs hg hr => ⟨inv_own (by omega) (fun k hk => by cases hk) pre X Y row hs.1 hg hr, kept_cells hg (fun r e => (hr r e).2) hs.2⟩, ⟨inv_no HI.out hU1b, hbx⟩, ?_⟩
    clear hU1b hbx HI
    rintro Wb _ ⟨hiv, ibx⟩
    have f3 := (cells_at hiv.2.2.1).1 0
    have IG := Lib.hid (show Gath Wb (w1.heap.size + 1) (fed wt 0 5 F j 0) from by rw [HJ.out]; exact hiv.2.2.2.2.2.1)
    have HI := Lib.hid hiv
    have hld := run_box48 hp ibx
    have HLD := Lib.hid hld
    have hj2 : j < n := by omega
    clear hiv ibx hld
    gi_wp2_with (with_reducible refine gstop_dst 78 ?_)
    refine on (wpListIn_run rfl (fun c h => Op.noConfusion h) (about_load rfl) (exec_load rfl rfl HLD.out) ?_)
    gi_wp2_with fail
    have hgs := step1_calls (w1.heap.size + 1) n j wt F P HFl.out hP21 hnP hj2 hwt1 Wb IG.out
    rw [← HF'.out] at hgs
    unfold arrV at hgs
    refine ⟨trivial, (to_round hgs).mono ?_⟩
    rintro e Wc ⟨⟨v, rfl⟩, hgc, hUc⟩
    have hg' : Gath Wc (w1.heap.size + 1) (fed wt 0 5 F (pre ++ [chunk F' j]).length 0) := by rw [List.length_append, ← HJ.out]; exact hgc
    have hn' : (w.heap.size + 1 ≠ w1.heap.size + 1 ∧ w.heap.size ≠ w1.heap.size + 1 ∧ w2.heap.size ≠ w1.heap.size + 1 ∧ w1.heap.size ≠ w1.heap.size + 1 ∧ gQ ≠ w1.heap.size + 1) := by omega
    have hst := inv_step (st' := fun i => fed wt 0 5 F i 0) (pre' := pre ++ [chunk F' j]) HI.out hUc hg' hn' (fun k hk => by cases hk) (fun k hk => by have := hvb2 k hk; omega) (by omega)
    have HST := Lib.hid hst
    clear hg' hgc hgs f3 hst
    gi_wp2
    exact ⟨hUc.keepsFrom (fun k o h1 h2 _ => by simp [One] at h1; omega), hUc.keeps (fun k o h1 _ h2 => by simp [One] at h1; omega), HST.out⟩
  case done =>
    rintro D W hD hiv hK
    have hlen : (chunks F').length = n := by rw [chunks_length, HFl'.out]; omega
    have hg0 : Gath W (w1.heap.size + 1) (fed wt 0 5 F n 0) := by rw [← hlen]; exact hiv.2.2.2.2.2.1
    have f3 := (cells_at hiv.2.2.1).1 0
    have f4 := (cells_at hiv.2.2.2.1).1 0
    have HI := Lib.hid hiv
    have HK := Lib.hid hK
    have hDl := heap_lt hK
    have HG := Lib.hid hg0
    clear hiv hK hlen hg0 H4 H5 HF5 HC5
    have hpn : (fed wt 0 5 F n 0).b.length / 48 = n := by simp only [fed, List.length_take, HFl.out]; omega
    have hp1 := parts_calls _ _ _ HG.out
    rw [hpn] at hp1
    have ht1 := tick_calls (w1.heap.size + 1) _ (5 + wt - 1) (by omega) W HG.out (by simp [fed])
    rw [fed_not_due wt F n hn1 hwt1, show (fed wt 0 5 F n 0).tick (5 + wt - 1) = fed wt 0 5 F n 0 from by rw [GS.tick, fed_not_due wt F n hn1 hwt1]; rfl, show ((5 + wt - 1 : Nat) : Int) = 5 + (wt : Int) - 1 from by omega] at ht1
    have HP1 := Lib.hid hp1
    have HT1 := Lib.hid ht1
    have HPN := Lib.hid hpn
    clear hp1 ht1 hpn
    go_wp2_with fail
    refine HP1.out.mono ?_
    rintro e w7 ⟨rfl, hw7⟩
    subst hw7
    go_wp2_with fail
    refine HT1.out.mono ?_
    rintro e w8 ⟨rfl, hg8, hU8⟩
    have hn' : (w.heap.size + 1 ≠ w1.heap.size + 1 ∧ w.heap.size ≠ w1.heap.size + 1 ∧ w2.heap.size ≠ w1.heap.size + 1 ∧ w1.heap.size ≠ w1.heap.size + 1 ∧ gQ ≠ w1.heap.size + 1) := by omega
    have hDg : ¬ One (w1.heap.size + 1) D := by simp [One]; omega
    have hstep : ∀ (X Y : World) (st : Nat → GS) (pre : List (List UInt8 × Bool)) (s : GS), Inv w (w.heap.size + 1) w.heap.size w2.heap.size w1.heap.size (w1.heap.size + 1) wt (.slice a1 lb.length c1) (.slice (some ⟨gQ, 0, none⟩) (48 * R) cQ) Q lb st none pre X → Upd (One (w1.heap.size + 1)) X Y → Gath Y (w1.heap.size + 1) s →
        Inv w (w.heap.size + 1) w.heap.size w2.heap.size w1.heap.size (w1.heap.size + 1) wt (.slice a1 lb.length c1) (.slice (some ⟨gQ, 0, none⟩) (48 * R) cQ) Q lb (fun _ => s) none [] Y := fun X Y st pre s hX hU hg =>
      inv_step (st' := fun _ => s) (pre' := []) hX hU hg hn' (fun k hk => by cases hk) (fun k hk => by have := hvb2 k hk; omega) (by omega)
    have hiv8 := hstep _ _ _ _ _ HI.out hU8 hg8
    have f3b := (cells_at hiv8.2.2.1).1 0
    have f4b := (cells_at hiv8.2.2.2.1).1 0
    have HI8 := Lib.hid hiv8
    have HK8 := Lib.hid (hU8.at HK.out hDg)
    have hs8 := hU8.size
    have hp2 := parts_calls _ _ _ hg8
    rw [HPN.out] at hp2
    have HG8 := Lib.hid hg8
    have HP2 := Lib.hid hp2
    have HST := Lib.hid hstep
    clear hp2 hg8 hiv8 f3 f4 HI HK HG HT1 HP1 hstep hU8
    go_wp2_with fail
    refine HP2.out.mono ?_
    rintro e w9 ⟨rfl, hw9⟩
    subst hw9
    have hdue := fed_is_due wt F n hn1 (by rw [HFl.out]; omega)
    have hlose := lose_fed wt F Q n hn1
    obtain ⟨s0, hs0⟩ : ∃ s0, s0 = if tk = true then fed wt 1 (5 + wt) Q 0 5 else fed wt 0 5 F n 0 := ⟨_, rfl⟩
    have hgood : s0.lost ≤ 1 ∧ s0.b.length ≤ 2000 ∧ ∀ p l, s0.take (5 + wt) p l = (fed wt 1 (5 + wt) Q 0 5).take (5 + wt) p l := by
      rw [hs0]
      split
      · exact ⟨by simp [fed], by simp [fed], fun _ _ => rfl⟩
      · exact ⟨by simp [fed], by simp only [fed, List.length_take, HFl.out]; omega, fun p l => by rw [take_due _ _ p l hdue, hlose]⟩
    have HDU := Lib.hid hdue
    have HLO := Lib.hid hlose
    have HGD := Lib.hid hgood
    clear hdue hlose hgood
    cases tk
    case' false =>
      have hs00 : s0 = fed wt 0 5 F n 0 := by rw [hs0]; rfl
      rw [← hs00] at HI8 HG8
      clear hs0 hs00
      obtain ⟨wE, hwE⟩ : ∃ wE, wE = w9 := ⟨w9, rfl⟩
      subst hwE
      have HIE := HI8
      have HKE := HK8
      have HGE := HG8
      clear HI8 HK8 HG8 HP2
      go_wp2_with fail
    case' true =>
      have hs00 : s0 = fed wt 1 (5 + wt) Q 0 5 := by rw [hs0]; rfl
      have ht3 := tick_calls (w1.heap.size + 1) _ (5 + wt) (by omega) w9 HG8.out (by simp [fed])
      rw [HDU.out, show (fed wt 0 5 F n 0).tick (5 + wt) = s0 from by rw [GS.tick, HDU.out, hs00, ← HLO.out]; rfl, show ((5 + wt : Nat) : Int) = 5 + (wt : Int) from by omega] at ht3
      have HT3 := Lib.hid ht3
      have HS00 := Lib.hid hs00
      clear hs0 ht3 hs00
      go_wp2_with fail
      refine HT3.out.mono ?_
      rintro e w10 ⟨rfl, hg10, hU10⟩
      have hiv10 := HST.out _ _ _ _ _ HI8.out hU10 hg10
      have f3c := (cells_at hiv10.2.2.1).1 0
      have f4c := (cells_at hiv10.2.2.2.1).1 0
      have hp4 := parts_calls _ _ _ hg10
      rw [show s0.b.length / 48 = 0 from by rw [HS00.out]; simp [fed], show ((0 : Nat) : Int) = 0 from rfl] at hp4
      have hd5 : s0.due (5 + wt) = false := by rw [HS00.out]; exact due_nil _ _ rfl
      have ht5 := tick_calls (w1.heap.size + 1) s0 (5 + wt) (by omega) w10 hg10 (by rw [HS00.out]; simp [fed])
      rw [hd5, show s0.tick (5 + wt) = s0 from by rw [GS.tick, hd5]; rfl, show ((5 + wt : Nat) : Int) = 5 + (wt : Int) from by omega] at ht5
      have HI10 := Lib.hid hiv10
      have HK10 := Lib.hid (hU10.at HK8.out hDg)
      have hs10 := hU10.size
      have HP4 := Lib.hid hp4
      have HT5 := Lib.hid ht5
      clear hiv10 hp4 ht5 hd5 HI8 HK8 HT3 f3b f4b HG8 HP2 hg10 hU10
      go_wp2_with fail
      refine HP4.out.mono ?_
      rintro e w11 ⟨rfl, hw11⟩
      subst hw11
      go_wp2_with fail
      refine HT5.out.mono ?_
      rintro e wE ⟨rfl, hgE, hUE⟩
      have HIE := Lib.hid (HST.out _ _ _ _ _ HI10.out hUE hgE)
      have HKE := Lib.hid (hUE.at HK10.out hDg)
      have HGE := Lib.hid hgE
      have hsE := hUE.size
      clear hgE hUE f3c f4c HI10 HK10 HT5 HS00 HP4
      go_wp2_with fail
    all_goals
      refine (cells_calls _ _ _ _).mono ?_
      rintro e w6 ⟨rfl, hw6⟩
      have hU6 : Upd No wE w6 := by rw [hw6]; exact (Upd.refl _ _).alloc _
      have c6 : w6.heap[wE.heap.size]? = some (.cells #[.slice (some ⟨gQ, 0, none⟩) (48 * R) cQ] 22 (0, 0)) := by rw [hw6]; exact block_new _ _
      have hs6 : wE.heap.size < w6.heap.size := heap_lt c6
      have hc6 := (cells_at c6).1 0
      have HC6 := Lib.hid (show w6.cell? ⟨wE.heap.size, 0, none⟩ = some (.slice (some ⟨gQ, 0, none⟩) (48 * R) cQ) from hc6)
      have hinv : Inv w (w.heap.size + 1) w.heap.size w2.heap.size w1.heap.size (w1.heap.size + 1) wt (.slice a1 lb.length c1) (.slice (some ⟨gQ, 0, none⟩) (48 * R) cQ) Q lb (fun i => st2 s0 wt Q R i) (some D) [] w6 := by
        obtain ⟨i1, i2, i3, i4, i5, ig, iq, ib, iU⟩ := inv_no HIE.out hU6
        refine ⟨i1, i2, i3, i4, ?_, ig, iq, ib, iU⟩
        intro k hk
        cases hk
        exact hU6.at HKE.out (fun h => h)
      have H6 := Lib.hid hinv
      have IQ6 := Lib.hid hinv.2.2.2.2.2.2.1
      have hDk : ∀ k, some D = some k → k < w6.heap.size := by intro k hk; cases hk; omega
      clear hc6 c6 hw6 hinv HIE HKE HGE
      go_wp2_with fail
      refine range_out (gf := 25) (lb := #[.pointer (some ⟨wE.heap.size, 0, none⟩)]) rfl (enters_of Try.func25 (by kernel_rfl) rfl)
        (cells_iter wE.heap.size (.slice (some ⟨gQ, 0, none⟩) (48 * R) cQ) Q (fun k _ => k = gQ) (fun k o h => by cases h; rfl) w6 HC6.out IQ6.out)
        (fun k o h => .inl (by omega)) (fun _ => rfl)
        (Inv w (w.heap.size + 1) w.heap.size w2.heap.size w1.heap.size (w1.heap.size + 1) wt (.slice a1 lb.length c1) (.slice (some ⟨gQ, 0, none⟩) (48 * R) cQ) Q lb (fun i => st2 s0 wt Q R i) (some D))
        (fun _ _ _ => False) (inv_own (by omega) hDk) (fun _ => ownFrom_false) H6.out ?round ?done ?stop
      case stop =>
        rintro D2 c pre W2 _ _ h _
        exact h.elim
      case round =>
        intro l pre x post W2 hx hl hi
        obtain ⟨hxe, hj⟩ := chunks_at hx
        rw [HQl.out] at hj
        subst hxe
        obtain ⟨j, hjj⟩ : ∃ j, j = pre.length := ⟨_, rfl⟩
        rw [← hjj] at hj
        have hp := chunk_len Q j (by rw [HQl.out]; exact hj)
        have HI := Lib.hid hi
        rw [← hjj]
        have HJ := Lib.hid hjj
        clear hi hx hjj
        unfold cellEnc
        gi_wp2_with (with_reducible refine gstop_dst 19 ?_)
        refine on (box48_in rfl rfl (.tmp 118) 19 rfl rfl rfl rfl (chunk Q j).1 hp rfl rfl ?_)
        intro W3 hbx hbl hU1b
        gi_wp2
        refine ⟨hU1b.keepsFrom (fun _ _ h => h.elim), hU1b.keeps (fun _ _ h => h.elim), fun W' => Inv w (w.heap.size + 1) w.heap.size w2.heap.size w1.heap.size (w1.heap.size + 1) wt (.slice a1 lb.length c1) (.slice (some ⟨gQ, 0, none⟩) (48 * R) cQ) Q lb (fun i => st2 s0 wt Q R i) (some D) pre W' ∧ W'.heap[W2.heap.size]? = some (.cells (rowOf (chunk Q j).1) 33 (0, 0)),
          fun _ X Y row hs hg hr => ⟨inv_own (by omega) hDk pre X Y row hs.1 hg hr, kept_cells hg (fun r e => (hr r e).2) hs.2⟩, ⟨inv_no HI.out hU1b, hbx⟩, ?_⟩
        clear hU1b hbx HI
        rintro Wb _ ⟨hiv, ibx⟩
        have f2 := cells_at hiv.2.1
        have f3d := (cells_at hiv.2.2.1).1 0
        have f4d := (cells_at hiv.2.2.2.1).1 0
        have IG := Lib.hid (show Gath Wb (w1.heap.size + 1) (st2 s0 wt Q R j) from by rw [HJ.out]; exact hiv.2.2.2.2.2.1)
        have IB := Lib.hid hiv.2.2.2.2.2.2.2.1
        have I2 := Lib.hid hiv.2.1
        have HI := Lib.hid hiv
        have hld := run_box48 hp ibx
        have HLD := Lib.hid hld
        have hj2 : j < R := by omega
        clear hiv ibx hld
        gi_wp2_with (with_reducible refine gstop_dst 124 ?_)
        refine on (wpListIn_run rfl (fun c h => Op.noConfusion h) (about_load rfl) (exec_load rfl rfl HLD.out) ?_)
        gi_wp2_with fail
        have hgs := step2_calls (w1.heap.size + 1) R j wt s0 Q lb hwt1 (by omega) HQl.out hR21 hj2 HUN.out HGD.out Wb IG.out
        unfold arrV at hgs
        refine ⟨trivial, (to_round hgs).mono ?_⟩
        rintro e Wc ⟨v, m, err, rfl, hgc, hUc, hlast⟩
        have hg' : Gath Wc (w1.heap.size + 1) (st2 s0 wt Q R (pre ++ [chunk Q j]).length) := by rw [List.length_append, ← HJ.out]; exact hgc
        have hst := inv_step (st' := fun i => st2 s0 wt Q R i) (pre' := pre ++ [chunk Q j]) HI.out hUc hg' hn' (fun k hk => by cases hk; omega) (fun k hk => by have := hvb2 k hk; omega) (by omega)
        have HEND := Lib.hid hst
        have IBc := Lib.hid hst.2.2.2.2.2.2.2.1
        have f2c := cells_at hst.2.1
        have HLA := Lib.hid hlast
        have hszc := hUc.size
        clear hgs hgc f3d f4d hlast f2 hst hg'
        cases hcl : (chunk Q j).2
        · gi_wp2
          case h_2 =>
            refine ⟨trivial, ?_⟩
            gi_wp2
            exact ⟨hUc.keepsFrom (fun k o h1 h2 _ => by simp [One] at h1; omega), hUc.keeps (fun k o h1 _ h2 => by simp [One] at h1; omega), HEND.out⟩
          all_goals
            rename_i hu _
            exact (Value.noConfusion (Option.some.inj hu))
        · obtain ⟨hbv, hm, he⟩ := HLA.out hcl
          have HBV := Lib.hid hbv
          subst hm he
          clear hbv
          gi_wp2
          have hsame := same_calls v (.slice a1 lb.length c1) lb lb Wc HBV.out IBc.out (by omega)
          rw [beq_self_eq_true] at hsame
          refine ⟨trivial, (to_round hsame).mono ?_⟩
          rintro e Wd ⟨rfl, hUd⟩
          gi_wp2
          have hUd2 : Upd (One (w1.heap.size + 1)) Wb Wd := hUc.trans (hUd.mono (fun _ _ h => h.elim))
          exact ⟨hUd2.keepsFrom (fun k o h1 h2 _ => by simp [One] at h1; omega), hUd2.keeps (fun k o h1 _ h2 => by simp [One] at h1; omega), inv_no HEND.out hUd⟩
      case done =>
        rintro D2 W2 hD2 hiv hK2
        have hlen : (chunks Q).length = R := by rw [chunks_length, HQl.out]; omega
        have ig : Gath W2 (w1.heap.size + 1) (⟨wt, 5 + wt, 1, [], false⟩ : GS) := by
          have := hiv.2.2.2.2.2.1
          rw [hlen] at this
          simpa only [st2, if_neg (show ¬ R = 0 by omega), if_neg (Nat.lt_irrefl R)] using this
        have f3d := (cells_at hiv.2.2.1).1 0
        have ho := lost_calls _ _ _ ig
        have f1 := cells_at hiv.1
        have i4 := hiv.2.2.2.2.1 D rfl
        have iU2 := hiv.2.2.2.2.2.2.2.2
        clear hiv
        rw [show (((⟨wt, 5 + wt, 1, [], false⟩ : GS).lost : Nat) : Int) = (1 : Int) from rfl] at ho
        go_wp2_with fail
        refine ho.mono ?_
        rintro e wF ⟨rfl, hwF⟩
        subst hwF
        go_wp2
        have hUl := iU2.setCell (p := ⟨w.heap.size + 1, 0, none⟩) (.inl (by simp)) (.bool true)
        have hrc : (wF.setCell ⟨w.heap.size + 1, 0, none⟩ (.bool true)).cell? ⟨w.heap.size + 1, 0, none⟩ = some (.bool true) := by
          rw [World.cell?_setCell_same _ _ _ (by rw [f1.1 0]; rfl)]
        refine fin_marks (B := w.heap.size) _ [D2, D] _ (by simp; omega) (by simp; exact ⟨⟨by omega, block_other hK2 (by simp; omega) _⟩, ⟨by omega, block_other i4 (by simp; omega) _⟩⟩) (fun W' hW' => ⟨.bool true, ?_, rfl, hW'.upd hUl (Nat.le_refl _)⟩)
        have hrc2 := hW'.cell hrc
        simp [results, Try.results3, go_sem, hrc2]
end Go.Proofs.Ytddohdfccagbbaa.Late
