/- The cause of a message with one element; 'awake' of the laws of messages. -/
import Derived.Test.YtddohdfccagbbaaRows
import Derived.Test.YtddohdfccagbbaaBase
import Derived.Test.YtddohdfccagbbaaBytes
import Derived.Test.YtddohdfccagbbaaSame
import Derived.Test.YtddohdfccagbbaaElem
import Derived.Test.YtddohdfccagbbaaMsg
import Derived.Test.YtddohdfccagbbaaEUn
import Derived.Test.YtddohdfccagbbaaMUn
import Derived.Test.YtddohdfccagbbaaMisc16
namespace Go.Proofs.Ytddohdfccagbbaa
open Go.RowKit Go.Shelf
attribute [local go_sem] Oper.semAt_some

theorem find_calls (v : Value) (body : List UInt8) (w : World) (h : Ies w v [(8, body)]) :
    Calls Try.prog 39 #[v, .int .u8 8] w fun e w' => ∃ u, e = .returned (.tuple #[.agg #[byteV 8, u], .bool true]) ∧ BytesE w' u body ∧ Upd No w w' := by
  obtain ⟨W, hW⟩ : ∃ W, W = (w.alloc (.cells #[.int .u8 8] 5)).alloc (.cells #[.int .u8 0, .slice none 0 0] 61) := ⟨_, rfl⟩
  have hU : Upd No w W := by rw [hW]; exact ((Upd.refl _ _).alloc _).alloc _
  have hp : W.cell? ⟨w.heap.size, 0, none⟩ = some (.int .u8 8) := by rw [hW]; exact (cells_at (block_old (block_new w _) _)).1 0
  have hr : W.heap[w.heap.size + 1]? = some (.cells #[.int .u8 0, .slice none 0 0] 61 (0, 0)) := by
    rw [hW]
    have := block_new (w.alloc (.cells #[.int .u8 8] 5)) (.cells #[.int .u8 0, .slice none 0 0] 61)
    rwa [World.size_alloc] at this
  have hix := idx1_calls v body w.heap.size W (h.no hU) hp
  have HIX := Lib.hid hix
  have HR := Lib.hid hr
  have HW := Lib.hid hW
  have HH := Lib.hid h
  clear hix hr hW hp h
  rcases HH.out with ⟨_, _, _, h0⟩ | ⟨b, off, cap, rfl, g1, g2, g3⟩
  · simp at h0
  · obtain ⟨u, d1, d2, d3⟩ := g3 0 (by simp)
    rw [show ieAt [(8, body)] 0 = ((8, body) : Ie) from rfl] at d1 d3
    simp only at d1 d3
    obtain ⟨au, cu, hu⟩ := d3.shape
    subst hu
    have hl1 : ([(8, body)] : List Ie).length = 1 := rfl
    rw [hl1] at HIX g1 ⊢
    have D1 := Lib.hid d1
    have D2 := Lib.hid d2
    have D3 := Lib.hid d3
    unfold maxLen at g2
    clear g3 d1 d2 d3 hl1 HH
    go_enter Try.func39, Try.ntmps39
    go_wp2_with fail
    rw [← HW.out]
    refine HIX.out.mono ?_
    rintro e w2 ⟨rfl, hU2⟩
    have hUU := hU.trans hU2
    have hld := run_load61 (hUU.cell D1.out (fun h => h)) (hUU.cell D2.out (fun h => h))
    have HLD := Lib.hid hld
    have hr2 := hU2.at HR.out (fun h => h)
    have e2 := cells_at hr2
    have HR2 := Lib.hid hr2
    have hlt := heap_lt hr2
    clear hld hr2 hU2
    go_wp2_with (with_reducible refine stop_dst 16 ?_)
    refine on (wpList_run rfl (exec_load rfl rfl HLD.out) ?_)
    go_wp2
    obtain ⟨WF, hWF⟩ : ∃ WF, WF = (w2.setCell ⟨w.heap.size + 1, 0, none⟩ (.int .u8 8)).setCell ⟨w.heap.size + 1, 1, none⟩ (.slice au body.length cu) := ⟨_, rfl⟩
    have s2 := block_set (i := 1) (block_set (i := 0) HR2.out (.int .u8 8)) (.slice au body.length cu)
    have hUF : Upd No w WF := by
      rw [hWF]
      exact (hUU.setCell (.inl (by simp)) _).setCell (.inl (by simp)) _
    rw [show byteV 8 = Value.int .u8 8 from rfl]
    rw [← hWF] at s2
    have f0 : WF.cell? ⟨w.heap.size + 1, 0, none⟩ = some (.int .u8 8) := by rw [(cells_at s2).1 0]; rfl
    have f1 : WF.cell? ⟨w.heap.size + 1, 1, none⟩ = some (.slice au body.length cu) := by rw [(cells_at s2).1 1]; rfl
    have hbe := D3.out.no hUF
    clear s2 e2
    rw [← hWF]
    refine bodyPost_ret (v := .tuple #[.agg #[.int .u8 8, .slice au body.length cu], .bool true]) ?_ rfl ⟨_, rfl, hbe, hUF⟩
    simp [results, Try.results39, go_sem, f0, f1]
theorem is_calls (a : Option Addr) (c : Nat) (w : World) :
    Calls Try.prog 49 #[.agg #[byteV 8, .slice a 2 c], .int .u8 8, .int .i64 2] w fun e w' => e = .returned (.int .i64 0) ∧ Upd No w w' := by
  rw [show byteV 8 = Value.int .u8 8 from rfl]
  go_enter Try.func49, Try.ntmps49
  go_wp2
  go_ret
  exact ⟨rfl, (Upd.refl _ _).alloc _⟩
theorem readcause_calls (u : Value) (w : World) (h : BytesE w u [0, 35]) :
    Calls Try.prog 40 #[.agg #[byteV 8, u]] w fun e w' => e = .returned (.tuple #[.int .i64 35, .int .i64 0]) ∧ Upd No w w' := by
  rcases h with h | ⟨_, _, _, h0⟩
  · rcases h with ⟨_, h0⟩ | ⟨b, off, cap, rfl, g1, g2, g3, g4⟩
    · simp at h0
    · have c0 := g4 0 (by simp)
      have c1 := g4 1 (by simp)
      have C0 := Lib.hid c0
      have C1 := Lib.hid c1
      rw [show ([0, 35] : List UInt8).length = 2 from rfl] at g1 ⊢
      unfold maxLen at g2
      have hbx := block_new w (.cells #[.int .u8 8, .slice (some ⟨b, off, none⟩) 2 cap] 61)
      have hU0 : Upd No w (w.alloc (.cells #[.int .u8 8, .slice (some ⟨b, off, none⟩) 2 cap] 61)) := (Upd.refl _ _).alloc _
      have HBX := Lib.hid hbx
      have his := is_calls (some ⟨b, off, none⟩) cap (w.alloc (.cells #[.int .u8 8, .slice (some ⟨b, off, none⟩) 2 cap] 61))
      rw [show byteV 8 = Value.int .u8 8 from rfl] at his ⊢
      have HIS := Lib.hid his
      clear c0 c1 g4 hbx his
      go_enter Try.func40, Try.ntmps40
      go_wp2_with fail
      refine HIS.out.mono ?_
      rintro e w2 ⟨rfl, hU2⟩
      have hU := hU0.trans hU2
      have d2 := cells_at (hU2.at HBX.out (fun h => h))
      have c0 := hU.cell C0.out (fun h => h)
      have c1 := hU.cell C1.out (fun h => h)
      rw [Nat.add_zero] at c0
      replace c0 : w2.cell? ⟨b, off, none⟩ = some (.int .u8 0) := c0
      replace c1 : w2.cell? ⟨b, off + 1, none⟩ = some (.int .u8 35) := c1
      clear hU0 hU2
      go_wp2
      go_ret2
      exact ⟨rfl, hU⟩
  · simp at h0
theorem cause_calls (ref : Int) (back : Bool) (kind : Int) (v : Value) (w : World) (h : Ies w v [(8, [0, 35])]) :
    Calls Try.prog 28 #[.agg (msgV ref back kind v)] w fun e w' => e = .returned (.int .i64 35) ∧ Upd No w w' := by
  unfold msgV
  obtain ⟨a, c, hv⟩ := h.shape
  have hbx := block_new w (.cells #[.int .i64 ref, .bool back, .int .i64 kind, v] 45)
  have hU0 : Upd No w (w.alloc (.cells #[.int .i64 ref, .bool back, .int .i64 kind, v] 45)) := (Upd.refl _ _).alloc _
  have hf := find_calls v [0, 35] _ (h.no hU0)
  have HF := Lib.hid hf
  clear hf hbx h
  subst hv
  go_enter Try.func28, Try.ntmps28
  go_wp2_with fail
  refine HF.out.mono ?_
  rintro e w2 ⟨u, rfl, hbe, hU2⟩
  have hU := hU0.trans hU2
  obtain ⟨au, cu, hu⟩ := hbe.shape
  rw [show ([0, 35] : List UInt8).length = 2 from rfl] at hu
  subst hu
  rw [show byteV 8 = Value.int .u8 8 from rfl]
  have hrc := readcause_calls (.slice au 2 cu) (w2.alloc (.cells #[.int .u8 8, .slice au 2 cu] 61)) (hbe.no ((Upd.refl _ _).alloc _))
  rw [show byteV 8 = Value.int .u8 8 from rfl] at hrc
  have HRC := Lib.hid hrc
  clear hrc hU0 hU2
  go_wp2_with fail
  refine HRC.out.mono ?_
  rintro e w3 ⟨rfl, hU3⟩
  go_wp2
  go_ret
  exact ⟨rfl, (hU.alloc _).trans hU3⟩

def L0 : List Ie := [(8, [0, 35])]
theorem m0 : msgBytes 5 false 90 L0 = [9, 3, 0, 0, 5, 90, 128, 0, 6, 8, 128, 0, 2, 0, 35] := by rfl
set_option maxRecDepth 100000 in
set_option maxHeartbeats 600000 in
theorem awake16_calls (w : World) : Calls Try.prog 17 #[] w fun e w' => e = .returned (.bool true) ∧ Upd No w w' := by
  obtain ⟨W, hW⟩ : ∃ W, W = (w.alloc (.cells #[.int .u8 0, .int .u8 35] 5)).alloc (.cells #[.int .u8 8, .slice (some ⟨w.heap.size, 0, none⟩) 2 2] 61) := ⟨_, rfl⟩
  have hU : Upd No w W := by rw [hW]; exact ((Upd.refl _ _).alloc _).alloc _
  have hb0 : Bytes W (.slice (some ⟨w.heap.size, 0, none⟩) 2 2) [0, 35] := by
    have : Bytes (w.alloc (.cells #[.int .u8 0, .int .u8 35] 5)) (.slice (some ⟨w.heap.size, 0, none⟩) 2 2) [0, 35] := Bytes.lit (l := [0, 35]) (block_new w _) (by simp [maxLen])
    rw [hW]
    exact this.no ((Upd.refl _ _).alloc _)
  have hb1 : W.heap[w.heap.size + 1]? = some (.cells #[.int .u8 8, .slice (some ⟨w.heap.size, 0, none⟩) 2 2] 61 (0, 0)) := by
    rw [hW]
    have := block_new (w.alloc (.cells #[.int .u8 0, .int .u8 35] 5)) (.cells #[.int .u8 8, .slice (some ⟨w.heap.size, 0, none⟩) 2 2] 61)
    rwa [World.size_alloc] at this
  have hies : Ies W (.slice (some ⟨w.heap.size + 1, 0, none⟩) 1 1) L0 := by
    refine .inr ⟨w.heap.size + 1, 0, 1, rfl, by decide, by unfold maxLen; omega, fun j hj => ?_⟩
    have : j = 0 := by simp [L0] at hj; exact hj
    subst this
    exact ⟨_, (cells_at hb1).1 0, (cells_at hb1).1 1, .inl hb0⟩
  have hpk := mpack_calls 5 false 90 _ L0 W hies (by decide) (by decide)
  have hok : msgRight 5 90 L0 = true ∧ (msgBytes 5 false 90 L0).length ≤ 1000 := ⟨by rfl, by rw [m0]; decide⟩
  unfold msgV at hpk
  have HPK := Lib.hid hpk
  have HOK := Lib.hid hok
  have HW := Lib.hid hW
  clear hpk hok hW hb0 hb1 hies
  go_enter Try.func17, Try.ntmps17
  go_wp2_with fail
  rw [← HW.out]
  refine HPK.out.mono ?_
  rintro e w1 ⟨v1, err, rfl, hU1, ⟨_, _, hno⟩ | ⟨rfl, hr, hl, hn1, ho1⟩⟩
  · exact absurd HOK.out hno
  · have hun := munpack_calls v1 5 false 90 L0 w1 ho1.bytes HOK.out.1 HOK.out.2
    unfold msgV at hun
    have HUN := Lib.hid hun
    have HO1 := Lib.hid ho1
    have hUU := hU.trans hU1
    clear hun ho1 hr hl hn1
    go_wp2_with fail
    refine HUN.out.mono ?_
    rintro e w2 ⟨v2, rfl, hie2, hU2⟩
    have hU12 := hUU.trans hU2
    have hbx := block_new w2 (.cells #[.int .i64 5, .bool false, .int .i64 90, v2] 45)
    obtain ⟨a2, c2, hv2⟩ := hie2.shape
    rw [show L0.length = 1 from rfl] at hv2
    subst hv2
    have HIE := Lib.hid hie2
    have HBX := Lib.hid hbx
    obtain ⟨W3, hW3⟩ : ∃ W3, W3 = (w2.alloc (.cells #[.int .i64 5, .bool false, .int .i64 90, .slice a2 1 c2] 45)).alloc (.cells #[.int .u8 9, .int .u8 3, .int .u8 0, .int .u8 0, .int .u8 5, .int .u8 90, .int .u8 128, .int .u8 0, .int .u8 6, .int .u8 8, .int .u8 128, .int .u8 0, .int .u8 2, .int .u8 0, .int .u8 35] 5) := ⟨_, rfl⟩
    have hU23 : Upd No w2 W3 := by rw [hW3]; exact ((Upd.refl _ _).alloc _).alloc _
    have hx3 : W3.heap[w2.heap.size]? = some (.cells #[.int .i64 5, .bool false, .int .i64 90, .slice a2 1 c2] 45 (0, 0)) := by rw [hW3]; exact block_old hbx _
    have hg15 : W3.heap[w2.heap.size + 1]? = some (.cells (rowOf [9, 3, 0, 0, 5, 90, 128, 0, 6, 8, 128, 0, 2, 0, 35]) 5 (0, 0)) := by
      rw [hW3]
      have := block_new (w2.alloc (.cells #[.int .i64 5, .bool false, .int .i64 90, .slice a2 1 c2] 45)) (.cells #[.int .u8 9, .int .u8 3, .int .u8 0, .int .u8 0, .int .u8 5, .int .u8 90, .int .u8 128, .int .u8 0, .int .u8 6, .int .u8 8, .int .u8 128, .int .u8 0, .int .u8 2, .int .u8 0, .int .u8 35] 5)
      rw [World.size_alloc] at this
      exact this
    have hb15 : Bytes W3 (.slice (some ⟨w2.heap.size + 1, 0, none⟩) 15 15) [9, 3, 0, 0, 5, 90, 128, 0, 6, 8, 128, 0, 2, 0, 35] := Bytes.lit (l := [9, 3, 0, 0, 5, 90, 128, 0, 6, 8, 128, 0, 2, 0, 35]) hg15 (by simp [maxLen])
    have hsm := same_calls v1 (.slice (some ⟨w2.heap.size + 1, 0, none⟩) 15 15) (msgBytes 5 false 90 L0) [9, 3, 0, 0, 5, 90, 128, 0, 6, 8, 128, 0, 2, 0, 35] W3 (HO1.out.bytes.no (hU2.trans hU23)) hb15 (by rw [m0]; decide)
    rw [m0, beq_self_eq_true] at hsm
    have HSM := Lib.hid hsm
    have HX3 := Lib.hid hx3
    have HW3 := Lib.hid hW3
    clear hie2 hbx hsm hb15 hg15 hW3 hx3
    go_wp2_with fail
    rw [← HW3.out]
    refine HSM.out.mono ?_
    rintro e w3 ⟨rfl, hU3⟩
    have d3 := cells_at (hU3.at HX3.out (fun h => h))
    have hU23 := hU23.trans hU3
    have hca := cause_calls 5 false 90 (.slice a2 1 c2) w3 (HIE.out.no hU23)
    unfold msgV at hca
    have HCA := Lib.hid hca
    have hU13 := hU12.trans hU23
    clear hca hU23 hU3
    go_wp2_with fail
    refine HCA.out.mono ?_
    rintro e w4 ⟨rfl, hU4⟩
    go_wp2
    go_ret
    exact ⟨rfl, hU13.trans hU4⟩
end Go.Proofs.Ytddohdfccagbbaa
