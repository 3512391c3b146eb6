/- gather's laws: what they share: a part of a frame that is taken; 'awake'. -/
import Derived.Test.YtddohdfccagbbaaRows
import Derived.Test.YtddohdfccagbbaaBase
import Derived.Test.YtddohdfccagbbaaBytes
import Derived.Test.YtddohdfccagbbaaFrame
import Derived.Test.YtddohdfccagbbaaCells
import Derived.Test.YtddohdfccagbbaaGather
import Derived.Test.YtddohdfccagbbaaTake
import Derived.Test.YtddohdfccagbbaaGPure
namespace Go.Proofs.Ytddohdfccagbbaa
open Go.RowKit Go.Shelf
attribute [local go_sem] Oper.semAt_some

theorem OwnB.known {w : World} {base : Nat} {v : Value} {l : List UInt8} (h : OwnB w base v l) (hn : v ≠ .slice none 0 0) : ∃ g cap, v = .slice (some ⟨g, 0, none⟩) l.length cap ∧ base ≤ g ∧ g < w.heap.size ∧ l.length ≤ cap ∧ cap ≤ maxLen ∧ ∀ j, j < l.length → w.cell? ⟨g, j, none⟩ = some (.int .u8 ((l[j]?.getD 0).toNat : Int)) := by
  have hb := h.bytes
  obtain ⟨_, ⟨rfl, h0⟩ | ⟨g, cap, cur, rfl, hb', hg, hn', hc, hs, ht⟩⟩ := h
  · exact absurd rfl hn
  · obtain ⟨_, _, _, hlt, hcell⟩ := hb.known
    exact ⟨g, cap, rfl, hb', hlt, hn', hc, fun j hj => by simpa using hcell j hj⟩

theorem more_calls (g wait lost t : Nat) (F : List UInt8) (k began : Nat) (ht : t ≤ 2305843009213693952) (hw : 1 ≤ wait) (hF : F.length ≤ 48 * 21) (hm : F.length % 48 = 0) (hk : k < F.length / 48) (hl : (chunk F k).2 = false) (hlo : lost < 999999990) (w : World) (h : Gath w g (fed wait lost t F k began)) :
    Calls Try.prog 11 #[.pointer (some ⟨g, 0, none⟩), .int .i64 (t : Int), arrV (chunk F k).1, .bool false] w fun e w' => e = .returned (.tuple #[.slice none 0 0, .int .u8 0, .int .i64 2]) ∧ Gath w' g (fed wait lost t F (k + 1) began) ∧ Upd (One g) w w' := by
  have h2 := take_calls g _ t ht (chunk F k).1 (chunk_len F k hk) false w h hlo (by simp [fed]; omega)
  rw [fed_more wait lost t F k began hw hF hk hl hm] at h2
  exact h2.mono fun e w' ⟨v, he, hv, _, hg, hU⟩ => ⟨by rw [he, hv (by simp)]; rfl, hg, hU⟩
theorem last_calls (g wait lost t : Nat) (F : List UInt8) (k began : Nat) (ht : t ≤ 2305843009213693952) (hw : 1 ≤ wait) (hF : F.length ≤ 48 * 21) (hm : F.length % 48 = 0) (hk : k < F.length / 48) (hl : (chunk F k).2 = true) (hlo : lost < 999999990) (w : World) (h : Gath w g (fed wait lost t F k began)) :
    Calls Try.prog 11 #[.pointer (some ⟨g, 0, none⟩), .int .i64 (t : Int), arrV (chunk F k).1, .bool true] w (Took w g (⟨wait, t, if (unpackOf F).2.2 ≠ 0 then lost + 1 else lost, [], false⟩, unpackOf F)) := by
  have h2 := take_calls g _ t ht (chunk F k).1 (chunk_len F k hk) true w h hlo (by simp [fed]; omega)
  rw [fed_last wait lost t F k began hw hk hm hl] at h2
  exact h2

theorem new_fed (wait : Nat) (t : Nat) (F : List UInt8) : GS.new wait = fed wait 0 t F 0 0 := by simp [GS.new, fed]

set_option maxRecDepth 100000 in
set_option maxHeartbeats 1000000 in
theorem awake_calls (w : World) : Calls Try.prog 7 #[] w fun e w' => e = .returned (.bool true) ∧ Upd No w w' := by
  obtain ⟨T, hT⟩ : ∃ T : List UInt8, T = List.replicate 41 0 := ⟨_, rfl⟩
  have hTl : T.length = 41 := by rw [hT, List.length_replicate]
  obtain ⟨F, hF⟩ : ∃ F, F = frameOf T 7 := ⟨_, rfl⟩
  have hFl : F.length = 96 := by rw [hF, frame_length T 7 (by omega), hTl]; rfl
  have hun : unpackOf F = (T, 7, 0) := by rw [hF]; exact unpack_frame T 7 (by omega) (by omega)
  have hnew := new_fed 10 0 F
  have c0 : (chunk F 0).1 = F.take 48 := by simp [chunk]
  have c1 : (chunk F 1).1 = (F.drop 48).take 48 := by simp [chunk]
  have l0 : (chunk F 0).2 = false := by simp [chunk, hFl]
  have l1 : (chunk F 1).2 = true := by simp [chunk, hFl]
  have HT := Lib.hid hT
  have HTl := Lib.hid hTl
  have HF := Lib.hid hF
  have HFl := Lib.hid hFl
  have HU := Lib.hid hun
  have HNW := Lib.hid hnew
  have HL0 := Lib.hid l0
  have HL1 := Lib.hid l1
  have HC0 := Lib.hid c0
  have HC1 := Lib.hid c1
  clear hT hTl hF hFl hun hnew l0 l1 c0 c1
  go_enter Try.func7, Try.ntmps7
  go_wp2_with fail
  have hn1 := new_calls 10 (by decide) (by decide) w
  rw [show ((10 : Nat) : Int) = (10 : Int) from rfl] at hn1
  refine hn1.mono ?_
  rintro e w1 ⟨rfl, hg, hw1⟩
  have hU1 : Upd No w w1 := by rw [hw1]; exact (Upd.refl _ _).alloc _
  have hs1 : w.heap.size < w1.heap.size := by rw [hw1]; simp
  rw [HNW.out] at hg
  have HG := Lib.hid hg
  clear hw1 hg
  go_wp2_with (with_reducible refine stop_make ?_)
  refine on (wpList_make_u8 rfl _ _ rfl 41 rfl rfl (by decide) ?_)
  rw [← HT.out]
  go_wp2_with fail
  have hbT := Bytes.box (block_new w1 (.cells (rowOf T) 5)) (by rw [HTl.out]; decide)
  rw [HTl.out] at hbT
  have hpk := pack_calls _ T 7 _ hbT (by rw [HTl.out]; decide) (by rw [HTl.out]; decide)
  rw [← HF.out, show byteV 7 = Value.int .u8 7 from rfl] at hpk
  refine hpk.mono ?_
  rintro e w2 ⟨v, rfl, hvn, ho, hU2⟩
  obtain ⟨gb, cb, rfl, hgb, hgb2, hcb, hcm, hcells⟩ := ho.known hvn
  rw [HFl.out] at hcb hcells ⊢
  unfold maxLen at hcm
  have hU2' : Upd No w w2 := (hU1.alloc _).trans hU2
  have hG2 := HG.out.no (((Upd.refl No w1).alloc _).trans hU2)
  have HG2 := Lib.hid hG2
  have s1 := sl_to (b := gb) (off := 0) (n := 96) (cap := cb) 48 (hi := 48) rfl (by omega)
  have s2 := sl_from (b := gb) (off := 0) (n := 96) (cap := cb) 48 (lo := 48) rfl (by omega) (by omega) (m := 48) (c := cb - 48) rfl rfl
  simp only [Nat.zero_add] at s2
  have a1 : ∀ W, (Instr.arrayAt 33 (.slice (some ⟨gb, 0, none⟩) 48 cb)).run Try.prog W = .ok (.pointer (some ⟨gb, 0, none⟩)) W := fun W => run_arrayAt W 33 5 48 _ _ _ Try.underlying33 (Nat.le_refl _)
  have a2 : ∀ W, (Instr.arrayAt 33 (.slice (some ⟨gb, 48, none⟩) 48 (cb - 48))).run Try.prog W = .ok (.pointer (some ⟨gb, 48, none⟩)) W := fun W => run_arrayAt W 33 5 48 _ _ _ Try.underlying33 (Nat.le_refl _)
  have HC := Lib.hid hcells
  clear hG2 hcells hbT hpk ho hvn hU2
  go_wp2_with (with_reducible refine stop_dst 29 ?_)
  have hl1 : (loadVar 33 ⟨gb, 0, none⟩).run Try.prog w2 = .ok (arrV (chunk F 0).1) w2 := run_load48 (chunk_len F 0 (by rw [HFl.out]; decide)) (fun j hj => by
    rw [HC0.out, List.getElem?_take_of_lt hj]
    simpa using HC.out j (by omega))
  refine on (wpList_run rfl (exec_load rfl rfl hl1) ?_)
  clear hl1
  go_wp2_with fail
  refine (more_calls w.heap.size 10 0 0 F 0 0 (by decide) (by decide) (by rw [HFl.out]; decide) (by rw [HFl.out]) (by rw [HFl.out]; decide) HL0.out (by decide) _ HG2.out).mono ?_
  rintro e w3 ⟨rfl, hg3, hU3⟩
  rw [World.size_alloc] at hgb
  have hne : ∀ j, j < 96 → w3.cell? ⟨gb, j, none⟩ = some (.int .u8 ((F[j]?.getD 0).toNat : Int)) := fun j hj => hU3.cell (HC.out j hj) (by simp [One]; omega)
  have hU4 : Upd No w w3 := hU2'.then hU3 (fun i hi e => by simp [One] at e; omega)
  have HC3 := Lib.hid hne
  have HG3 := Lib.hid hg3
  have hp3 := parts_calls _ _ _ hg3
  have hq : (fed 10 0 0 F (0 + 1) 0).b.length / 48 = 1 := by simp [fed, HFl.out]
  rw [hq, show ((1 : Nat) : Int) = (1 : Int) from rfl] at hp3
  have HP3 := Lib.hid hp3
  clear hne hg3 hp3 hq
  go_wp2_with fail
  refine HP3.out.mono ?_
  rintro e w4 ⟨rfl, hw4⟩
  subst hw4
  go_wp2_with (with_reducible refine stop_dst 41 ?_)
  have hl2 : (loadVar 33 ⟨gb, 48, none⟩).run Try.prog w4 = .ok (arrV (chunk F 1).1) w4 := run_load48 (chunk_len F 1 (by rw [HFl.out]; decide)) (fun j hj => by
    rw [HC1.out, List.getElem?_take_of_lt hj, List.getElem?_drop]
    exact HC3.out (48 + j) (by omega))
  refine on (wpList_run rfl (exec_load rfl rfl hl2) ?_)
  clear hl2
  go_wp2_with fail
  have hd : (fed 10 0 0 F (0 + 1) 0).due 1 = false := by simp [GS.due, fed]
  have hb : (fed 10 0 0 F (0 + 1) 0).b ++ (chunk F 1).1 = F := by
    have := take_chunk F 1
    simp only [fed, Nat.zero_add]
    rw [this]
    exact List.take_of_length_le (by rw [HFl.out]; decide)
  have htk := take_last _ 1 (chunk F 1).1 hd rfl
  rw [hb, HU.out] at htk
  have hla := take_calls w.heap.size _ 1 (by decide) (chunk F 1).1 (chunk_len F 1 (by rw [HFl.out]; decide)) true _ HG3.out (by simp [fed]) (by simp [fed]; omega)
  rw [htk, show ((1 : Nat) : Int) = (1 : Int) from rfl] at hla
  obtain ⟨s5, hs5⟩ : ∃ s5 : GS, s5 = { (fed 10 0 0 F (0 + 1) 0).add 1 (chunk F 1).1 with b := [], lost := 0 } := ⟨_, rfl⟩
  have hb5 : s5.b = [] := by rw [hs5]
  have hl5 : s5.lost = 0 := by rw [hs5]
  refine hla.mono ?_
  rintro e w5 ⟨v, rfl, _, ho5, hg5, hU5⟩
  have hg5' : Gath w5 w.heap.size s5 := by rw [hs5]; simpa [fed] using hg5
  have hU6 : Upd No w w5 := hU4.then hU5 (fun i hi e => by simp [One] at e; omega)
  obtain ⟨a5, c5, hv5, _⟩ := ho5.bytes.shape
  have hT5 := HTl.out
  simp only at hv5
  rw [hT5] at hv5
  subst hv5
  have hp5 := parts_calls _ _ _ hg5'
  have ho6 := lost_calls _ _ _ hg5'
  rw [hb5, show (([] : List UInt8).length / 48 : Nat) = 0 from rfl, show ((0 : Nat) : Int) = (0 : Int) from rfl] at hp5
  rw [hl5, show ((0 : Nat) : Int) = (0 : Int) from rfl] at ho6
  have HP5 := Lib.hid hp5
  have HO6 := Lib.hid ho6
  clear hp5 ho6 hg5 hg5' hs5 hb5 hl5 ho5 hla htk hb hd hT5
  go_wp2_with (first
    | (go_at_call 12; refine HP5.out.mono ?_; rintro e w7 ⟨rfl, hw7⟩; subst hw7)
    | (go_at_call 15; refine HO6.out.mono ?_; rintro e w7 ⟨rfl, hw7⟩; subst hw7))
  go_ret
  exact ⟨rfl, hU6⟩

/-- Blocks of cells abide the turn of a block that is none. -/
theorem kept_cells {W W' : World} {row : Option Nat} {k : Nat} {c : Array Value} {t : TypeId} {m : Nat × Nat} (hg : W.grownBy W' row) (hr : ∀ r, row = some r → ∃ o : Obj, W.heap[r]? = some o ∧ o.isCells = false) (h : W.heap[k]? = some (.cells c t m)) : W'.heap[k]? = some (.cells c t m) :=
  (hg.block k (heap_lt h) (fun e => by obtain ⟨o, ho, hc⟩ := hr k e.symm; rw [h] at ho; cases ho; cases hc)).trans h
theorem ownFrom_cells {β : Type} {B k : Nat} (f : β → Array Value) (t : TypeId) (m : Nat × Nat) : OwnFrom B (fun s W => W.heap[k]? = some (.cells (f s) t m)) := fun _ _ _ _ hs hg hr => kept_cells hg (fun r e => (hr r e).2) hs
theorem bytes_kept {W W' : World} {row : Option Nat} {v : Value} {l : List UInt8} (hg : W.grownBy W' row) (hr : ∀ r, row = some r → ∃ o : Obj, W.heap[r]? = some o ∧ o.isCells = false) (h : Bytes W v l) : Bytes W' v l := by
  rcases h with h | ⟨b, off, cap, rfl, h1, h2, h3, h4⟩
  · exact .inl h
  · exact .inr ⟨b, off, cap, rfl, h1, h2, Nat.lt_of_lt_of_le h3 hg.size, fun j hj => cell_kept (h4 j hj) hg hr⟩
theorem ownFrom_bytes {β : Type} {B : Nat} (v : β → Value) (l : β → List UInt8) : OwnFrom B (fun s W => Bytes W (v s) (l s)) := fun _ _ _ _ hs hg hr => bytes_kept hg (fun r e => (hr r e).2) hs
theorem ownFrom_gath {β : Type} {B g : Nat} (f : β → GS) : OwnFrom B (fun s W => Gath W g (f s)) := fun _ _ _ _ hs hg hr => by
  obtain ⟨a, c, h1, h2, h3, h4⟩ := hs
  exact ⟨a, c, kept_cells hg (fun r e => (hr r e).2) h1, bytes_kept hg (fun r e => (hr r e).2) h2, fun ad e => ⟨(h3 ad e).1, let ⟨cur, fr, h⟩ := (h3 ad e).2; ⟨cur, fr, kept_cells hg (fun r e => (hr r e).2) h⟩⟩, h4⟩
end Go.Proofs.Ytddohdfccagbbaa
