/- The statement MessageFrames: a message goes into a frame, and comes out of it as it was; a bit that is turned over there is told. -/
import Derived.Test.YtddohdfccagbbaaRows
import Derived.Test.YtddohdfccagbbaaBase
import Derived.Test.YtddohdfccagbbaaBytes
import Derived.Test.YtddohdfccagbbaaFrame
import Derived.Test.YtddohdfccagbbaaGPure
import Derived.Test.YtddohdfccagbbaaAwake11
import Derived.Test.YtddohdfccagbbaaElem
import Derived.Test.YtddohdfccagbbaaMsg
import Derived.Test.YtddohdfccagbbaaEUn
import Derived.Test.YtddohdfccagbbaaMUn
import Derived.Test.YtddohdfccagbbaaMisc16
import Derived.Test.YtddohdfccagbbaaCause16
import Derived.Test.YtddohdfccagbbaaTurned
namespace Go.Proofs.Ytddohdfccagbbaa.Frames
open Go.RowKit Go.Shelf
attribute [local go_sem] Oper.semAt_some

theorem few_parts {L : List Ie} (h : fewOf L = true) : L.length ≤ 20 ∧ (∀ x ∈ L, x.2.length ≤ 300) ∧ ∀ k, k < L.length → (ieAt L k).2.length ≤ 300 := by
  simp only [fewOf, Bool.and_eq_true, decide_eq_true_eq, List.all_eq_true] at h
  refine ⟨h.2, h.1, fun k hk => ?_⟩
  have := h.1 L[k] (List.getElem_mem hk)
  simpa [ieAt, hk] using this
theorem frame_ok (M : List UInt8) (h1 : 1 ≤ M.length) : (frameOf M 0).drop ((frameOf M 0).length - 4) = sumBytes ((frameOf M 0).take ((frameOf M 0).length - 4)) := by
  have hl : (frameOf M 0).length = (frameBody M 0).length + 4 := by simp [frameOf, sumBytes]
  rw [hl, Nat.add_sub_cancel, frameOf, List.drop_left', List.take_left']
  rfl
  rfl
set_option maxRecDepth 100000 in
set_option maxHeartbeats 2000000 in
theorem main (ref : Int) (back : Bool) (kind : Int) (v : Value) (L : List Ie) (bit : Nat) (hbit : bit < 65536) (w : World) (h : Ies w v L) :
    Calls Try.prog 6 #[.agg (msgV ref back kind v), .int .u16 (bit : Int)] w fun e w' => e = .returned (.bool true) ∧ Upd No w w' := by
  have hfw := fun W => few_calls ref back kind v L W
  have hmp := fun W => mpack_calls ref back kind v L W
  have hsm := fun W v1 => same16_calls ref back kind v1 v L W
  unfold msgV at hfw hmp hsm ⊢
  obtain ⟨W, hW⟩ : ∃ W, W = w.alloc (.cells #[.int .i64 ref, .bool back, .int .i64 kind, v] 45) := ⟨_, rfl⟩
  have hU0 : Upd No w W := by rw [hW]; exact (Upd.refl _ _).alloc _
  have hbx : W.heap[w.heap.size]? = some (.cells #[.int .i64 ref, .bool back, .int .i64 kind, v] 45 (0, 0)) := by rw [hW]; exact block_new _ _
  obtain ⟨r, hr⟩ : ∃ r, r = fewOf L := ⟨_, rfl⟩
  rw [← hr] at hfw
  have HR := Lib.hid hr
  have HFW := Lib.hid hfw
  have HMP := Lib.hid hmp
  have HSM := Lib.hid hsm
  have HBX := Lib.hid hbx
  have HH := Lib.hid h
  have HW := Lib.hid hW
  obtain ⟨a, c, hv⟩ := h.shape
  clear hr hfw hmp hsm hbx h hW
  subst hv
  go_enter Try.func6, Try.ntmps6
  go_wp2_with fail
  rw [← HW.out]
  refine (awake16_calls _).mono ?_
  rintro e w1 ⟨rfl, hU1⟩
  have hV1 := hU0.trans hU1
  have d1 := cells_at (hU1.at HBX.out (fun h => h))
  go_wp2_with fail
  refine (HFW.out w1 (HH.out.no hV1)).mono ?_
  rintro e w2 ⟨rfl, hU2⟩
  have hV2 := hV1.trans hU2
  have d2 := cells_at ((hU1.trans hU2).at HBX.out (fun h => h))
  clear d1
  cases r
  · go_wp2_with fail
    refine (awake16_calls _).mono ?_
    rintro e w3 ⟨rfl, hU3⟩
    go_wp2
    go_ret
    exact ⟨rfl, hV2.trans hU3⟩
  · obtain ⟨hl20, hb300, hk300⟩ := few_parts HR.out.symm
    have HB300 := Lib.hid hb300
    have HK300 := Lib.hid hk300
    clear hb300 hk300
    go_wp2_with fail
    refine (HMP.out w2 (HH.out.no hV2) hl20 HB300.out).mono ?_
    rintro e w3 ⟨v3, err, rfl, hU3, ⟨hne, rfl, _⟩ | ⟨rfl, hmr, hml, hn3, ho3⟩⟩
    · have qe : (err != 0) = true := by rw [bne_iff_ne]; exact hne
      go_wp2
      go_ret
      exact ⟨rfl, hV2.trans hU3⟩
    · obtain ⟨M, hM⟩ : ∃ M, M = msgBytes ref back kind L := ⟨_, rfl⟩
      have hM9 : 9 ≤ M.length := by rw [hM, msgBytes]; simp [two]
      rw [← hM] at hml ho3
      have hV3 := hV2.trans hU3
      have hpk := pack_calls v3 M 0 w3 ho3.bytes (by omega) hml
      obtain ⟨F, hF⟩ : ∃ F, F = frameOf M 0 := ⟨_, rfl⟩
      have hFl : F.length = 48 * partsOf M.length := by rw [hF]; exact frame_length M 0 (by omega)
      have hP1 := parts_pos M.length (by omega)
      have hP21 := parts_le M.length hml
      have hun : unpackOf F = (M, 0, 0) := by rw [hF]; exact unpack_frame M 0 (by omega) hml
      have hfo : F.drop (F.length - 4) = sumBytes (F.take (F.length - 4)) := by rw [hF]; exact frame_ok M (by omega)
      rw [← hF, show byteV 0 = Value.int .u8 0 from rfl] at hpk
      have HPK := Lib.hid hpk
      have HM := Lib.hid hM
      have HUN := Lib.hid hun
      have HFO := Lib.hid hfo
      have HMR := Lib.hid hmr
      obtain ⟨n, hn⟩ : ∃ n, n = F.length := ⟨_, rfl⟩
      rw [← hn] at hFl
      have HN := Lib.hid hn
      have hn48 : 48 ≤ n ∧ n ≤ 1008 := by omega
      have h48 : n % 48 = 0 := by omega
      have H48 := Lib.hid h48
      clear hM hpk hun hfo hF hmr hn hFl h48 hP1 hP21 ho3 hn3 d2
      go_wp2_with fail
      refine HPK.out.mono ?_
      rintro e w4 ⟨v4, rfl, hn4, ho4, hU4⟩
      obtain ⟨g4, c4, rfl, _, _, hc4, hcm4, _⟩ := ho4.known hn4
      rw [← HN.out] at hc4 ho4 ⊢
      have HO4 := Lib.hid ho4.bytes
      have hV4 := hV3.trans hU4
      unfold maxLen at hcm4
      have qn : ((n : Int) == 0) = false := by rw [beq_eq_false_iff_ne]; omega
      clear ho4 hn4 HPK
      have hup := unpack_any (.slice (some ⟨g4, 0, none⟩) n c4) F w4 HO4.out (by have := HN.out; omega)
      rw [HUN.out] at hup
      have HUP := Lib.hid hup
      clear hup
      go_wp2_with fail
      refine HUP.out.mono ?_
      rintro e w5 ⟨v5, rfl, _, ho5, hU5⟩
      simp only at ho5
      have hmu := munpack_calls v5 ref back kind L w5 (by rw [← HM.out]; exact ho5.bytes) HMR.out (by rw [← HM.out]; exact hml)
      unfold msgV at hmu
      have HMU := Lib.hid hmu
      have hV5 := hV4.trans hU5
      clear hmu HUP ho5
      go_wp2_with fail
      refine HMU.out.mono ?_
      rintro e w6 ⟨v6, rfl, hie6, hU6⟩
      obtain ⟨a6, c6, hv6⟩ := hie6.shape
      subst hv6
      have hV6 := hV5.trans hU6
      obtain ⟨W7, hW7⟩ : ∃ W7, W7 = w6.alloc (.cells #[.int .i64 ref, .bool back, .int .i64 kind, .slice a6 L.length c6] 45) := ⟨_, rfl⟩
      have hU67 : Upd No w6 W7 := by rw [hW7]; exact (Upd.refl _ _).alloc _
      have hb7 : W7.heap[w6.heap.size]? = some (.cells #[.int .i64 ref, .bool back, .int .i64 kind, .slice a6 L.length c6] 45 (0, 0)) := by rw [hW7]; exact block_new _ _
      have hV7 := hV6.trans hU67
      obtain ⟨i, hi⟩ : ∃ i, i = bit % (8 * n) := ⟨_, rfl⟩
      have hil : i < 8 * n := by rw [hi]; exact Nat.mod_lt _ (by omega)
      have ei : (bit : Int) % (8 * (n : Int)) = (i : Int) := by rw [hi, show (8 * (n : Int)) = ((8 * n : Nat) : Int) from by omega]; exact (Int.natCast_emod _ _).symm
      have hfl := flip_calls (.slice (some ⟨g4, 0, none⟩) n c4) F i W7 (HO4.out.no ((hU5.trans hU6).trans hU67)) (by have := HN.out; omega) (by have := HN.out; omega)
      have HW7 := Lib.hid hW7
      have HB7 := Lib.hid hb7
      have HIE := Lib.hid (hie6.no hU67)
      have HFL := Lib.hid hfl
      have hsz7 : w6.heap.size < W7.heap.size := heap_lt hb7
      clear hW7 hb7 hie6 hfl hi HMU
      go_wp2_with fail
      rw [← HW7.out]
      refine HFL.out.mono ?_
      rintro e w8 ⟨v8, rfl, hb8, hU8⟩
      have hup8 := unpack_any v8 _ w8 hb8 (by rw [flipOf, List.length_set]; have := HN.out; omega)
      have HUP8 := Lib.hid hup8
      have htu := unpack_turned F i (by have := HN.out; omega) (by rw [← HN.out]; exact H48.out) HFO.out
      have HTU := Lib.hid htu
      clear hup8 hb8 htu
      go_wp2_with fail
      refine HUP8.out.mono ?_
      rintro e w9 ⟨v9, rfl, _, _, hU9⟩
      rw [HTU.out]
      have hU79 := hU8.trans hU9
      have d9 := cells_at (hU79.at HB7.out (fun h => h))
      have e9 := cells_at ((((((((hU1.trans hU2).trans hU3).trans hU4).trans hU5).trans hU6).trans hU67).trans hU79).at HBX.out (fun h => h))
      have hV9 := hV7.trans hU79
      have hss := HSM.out w9 (.slice a6 L.length c6) (HIE.out.no hU79) (HH.out.no hV9) HK300.out
      have HSS := Lib.hid hss
      clear hss HUP8 HFL
      go_wp2_with fail
      refine HSS.out.mono ?_
      rintro e wF ⟨rfl, hUF⟩
      go_wp2
      go_ret
      exact ⟨rfl, hV9.trans hUF⟩
end Go.Proofs.Ytddohdfccagbbaa.Frames
