/- gather.Take: what a part comes to. -/
import Derived.Test.YtddohdfccagbbaaRows
import Derived.Test.YtddohdfccagbbaaBase
import Derived.Test.YtddohdfccagbbaaBytes
import Derived.Test.YtddohdfccagbbaaFrame
import Derived.Test.YtddohdfccagbbaaCells
import Derived.Test.YtddohdfccagbbaaGather
namespace Go.Proofs.Ytddohdfccagbbaa
open Go.RowKit Go.Shelf
attribute [local go_sem] Oper.semAt_some

/-- What a part comes to. -/
def GS.take (s : GS) (t : Nat) (p : List UInt8) (last : Bool) : GS × List UInt8 × UInt8 × Nat :=
  let s1 := s.tick t
  if s1.skips then ({ s1 with skips := !last }, [], 0, 2)
  else
    let s2 := s1.add t p
    if last then
      let r := unpackOf s2.b
      ({ s2 with b := [], lost := if r.2.2 ≠ 0 then s2.lost + 1 else s2.lost }, r)
    else if s2.b.length / 48 < 21 then (s2, [], 0, 2)
    else ({ s2.lose with skips := true }, [], 0, 6)
/-- A gatherer's answer. -/
def Took (w : World) (g : Nat) (r : GS × List UInt8 × UInt8 × Nat) (e : Ending) (w' : World) : Prop :=
  ∃ v', e = .returned (.tuple #[v', byteV r.2.2.1, .int .i64 (r.2.2.2 : Nat)]) ∧ (r.2.2.2 ≠ 0 → v' = .slice none 0 0) ∧ OwnB w' w.heap.size v' r.2.1 ∧ Gath w' g r.1 ∧ Upd (One g) w w'
theorem tick_skips (s : GS) (t : Nat) : (s.tick t).skips = s.skips := by unfold GS.tick; split <;> rfl
theorem tick_len (s : GS) (t : Nat) : (s.tick t).b.length ≤ s.b.length := by unfold GS.tick; split <;> simp [GS.lose]
theorem tick_lost (s : GS) (t : Nat) : (s.tick t).lost ≤ s.lost + 1 := by unfold GS.tick; split <;> simp [GS.lose]
theorem run_box48 {w : World} {b : Nat} {t : TypeId} {p : List UInt8} (hp : p.length = 48) (h : w.heap[b]? = some (.cells (rowOf p) t (0, 0))) : (loadVar 33 ⟨b, 0, none⟩).run Try.prog w = .ok (.agg (rowOf p)) w :=
  run_loadVar_row w b t 33 (rowOf p) (0, 0) _ h Try.underlying33 rfl (by rw [show (rowOf p).size = 48 from by simp [rowOf, hp]]; kernel_rfl)
theorem not_own {w : World} {a : Option Addr} {n c g : Nat} (h : Lies w g a) : ∀ k, (Value.slice a n c).ownBlock = some k → ¬ One g k := by
  intro k hk
  cases a with
  | none => simp [Value.ownBlock] at hk
  | some ad => simp [Value.ownBlock] at hk; subst hk; exact (h ad rfl).1
set_option maxRecDepth 100000 in
set_option maxHeartbeats 1000000 in
theorem take_calls (g : Nat) (s : GS) (t : Nat) (ht : t ≤ 2305843009213693952) (p : List UInt8) (hp : p.length = 48) (last : Bool) (w : World) (h : Gath w g s) (hl : s.lost < 999999990) (hb : s.b.length ≤ 9000) :
    Calls Try.prog 11 #[.pointer (some ⟨g, 0, none⟩), .int .i64 (t : Int), arrV p, .bool last] w (Took w g (s.take t p last)) := by
  have k1 := tick_skips s t
  have k2 := tick_len s t
  have k3 := tick_lost s t
  obtain ⟨s1, hs1⟩ : ∃ s1, s1 = s.tick t := ⟨_, rfl⟩
  rw [← hs1] at k1 k2 k3
  obtain ⟨R, hR⟩ : ∃ R, R = s.take t p last := ⟨_, rfl⟩
  rw [← hR]
  have hR2 := hR
  simp only [GS.take, ← hs1] at hR2
  have hbx := block_new w (.cells (rowOf p) 33)
  have hbx2 := (show (w.alloc (.cells (rowOf p) 33)).heap.size = w.heap.size + 1 from by simp)
  have hgl := h.lt
  unfold arrV
  have HR := Lib.hid hR2
  have H1 := Lib.hid hs1
  have HH := Lib.hid h
  have HX := Lib.hid hbx
  have HS := Lib.hid hbx2
  clear hR hR2 hs1 h hbx hbx2
  cases hsk : s1.skips with
  | true =>
    have HK := Lib.hid hsk
    clear hsk
    go_enter Try.func11, Try.ntmps11
    go_wp2_with fail
    refine (tick_calls g s t ht _ (HH.out.no ((Upd.refl _ _).alloc _)) (by omega)).mono ?_
    rintro e w1 ⟨rfl, hg1, hU1⟩
    rw [← H1.out] at hg1
    obtain ⟨a, c, hb1, hb2, hb3, hb4⟩ := hg1
    have hc := cells_at hb1
    unfold gcells at hc
    rw [HK.out] at hc
    have hr : R = ({ s1 with skips := !last }, [], 0, 2) := by rw [HR.out, HK.out]; rfl
    have HRR := Lib.hid hr
    have HB1 := Lib.hid hb1
    have hUU : Upd (One g) w w1 := ((Upd.refl (One g) w).alloc _).trans hU1
    clear hr hb1
    go_wp2
    go_ret3
    rw [HRR.out]
    refine ⟨_, rfl, fun _ => rfl, OwnB.nil _ _, ⟨a, c, ?_, hb2.upd ((Upd.refl (One g) w1).setCell (.inr (by simp [One])) _) (not_own hb3), hb3.upd ((Upd.refl (One g) _).setCell (.inr (by simp [One])) _), ⟨hb4.wait, hb4.began, hb4.lost, hb4.b⟩⟩, hUU.setCell (.inr (by simp [One])) _⟩
    rw [block_set HB1.out]
    rfl
  | false =>
    have HK := Lib.hid hsk
    clear hsk
    obtain ⟨s2, hs2⟩ : ∃ s2, s2 = s1.add t p := ⟨_, rfl⟩
    have hr : R = if last = true then ({ s2 with b := [], lost := if (unpackOf s2.b).2.2 ≠ 0 then s2.lost + 1 else s2.lost }, unpackOf s2.b) else if s2.b.length / 48 < 21 then (s2, [], 0, 2) else ({ s2.lose with skips := true }, [], 0, 6) := by
      rw [HR.out, HK.out, hs2]; rfl
    have hs2l : s2.b.length = s1.b.length + 48 := by rw [hs2]; simp [GS.add, hp]
    have hs2s : s2.lost = s1.lost := by rw [hs2]; rfl
    have HS2 := Lib.hid hs2
    have HRR := Lib.hid hr
    have HL2 := Lib.hid hs2l
    have HSS := Lib.hid hs2s
    have hm21 : partsOf 1000 = 21 := by decide
    have hb2 : s2.b.length ≤ 9048 := by omega
    have hsl : s2.lost < 1000000000 := by omega
    clear hs2 hr hs2l hs2s
    go_enter Try.func11, Try.ntmps11
    go_wp2_with fail
    refine (tick_calls g s t ht _ (HH.out.no ((Upd.refl _ _).alloc _)) (by omega)).mono ?_
    rintro e w1 ⟨rfl, hg1, hU1⟩
    rw [← H1.out] at hg1
    have hbx1 : w1.heap[w.heap.size]? = some (.cells (rowOf p) 33 (0, 0)) := hU1.at HX.out (by simp [One]; omega)
    have hld := run_box48 hp hbx1
    have hUU : Upd (One g) w w1 := ((Upd.refl (One g) w).alloc _).trans hU1
    have HG1 := Lib.hid hg1
    obtain ⟨a, c, hb1, _, _, _⟩ := hg1
    have hc := (cells_at hb1).1 4
    unfold gcells at hc
    rw [HK.out] at hc
    have HLD := Lib.hid hld
    clear hb1 hbx1 hld hU1
    go_wp2_with (with_reducible refine stop_dst 30 ?_)
    refine on (wpList_run rfl (exec_load rfl rfl HLD.out) ?_)
    go_wp2_with fail
    refine (add_calls g s1 t ht p hp _ HG1.out (by omega)).mono ?_
    rintro e w2 ⟨rfl, hg2, hU2⟩
    rw [← HS2.out] at hg2
    have hUU2 := hUU.trans hU2
    have HG2 := Lib.hid hg2
    obtain ⟨a, c, hb1, hb2, hb3, hb4⟩ := hg2
    have hc := cells_at hb1
    unfold gcells at hc
    have HB1 := Lib.hid hb1
    have HB2 := Lib.hid hb2
    clear hb1 hb2 hUU hU2 HG1
    cases last with
    | true =>
      go_wp2_with fail
      refine (unpack_any _ s2.b _ HB2.out (by omega)).mono ?_
      rintro e w3 ⟨v, rfl, hv, ho, hU3⟩
      obtain ⟨U, hU⟩ : ∃ U, U = unpackOf s2.b := ⟨_, rfl⟩
      rw [← hU] at hv ho ⊢
      have hr : R = ({ s2 with b := [], lost := if U.2.2 ≠ 0 then s2.lost + 1 else s2.lost }, U) := by rw [HRR.out, hU]; rfl
      obtain ⟨text, mark, err⟩ := U
      have hc3 := cells_at (hU3.at HB1.out (fun h => h))
      unfold gcells at hc3
      have HB3 := Lib.hid (hU3.at HB1.out (fun h => h))
      have HQ := Lib.hid hr
      have HO := Lib.hid ho
      have hUU3 := hUU2.trans hU3.no
      dsimp only at hv ⊢
      have hlt3 := heap_lt HB3.out
      clear hc hr ho hU
      by_cases he : err = 0
      · have q : ((err : Int) != 0) = false := by rw [← nat_bne, he]; rfl
        have HE := Lib.hid he
        clear he hv
        go_wp2
        go_ret3
        rw [HQ.out]
        refine ⟨v, rfl, fun h => absurd HE.out h, (HO.out.keep ((Upd.refl (One g) w3).setCell (.inr (by simp [One])) _) (fun k hk => by have := (HO.out.ge k hk).1; have := hUU2.size; simp [One]; omega)).mono hUU2.size, ⟨none, 0, ?_, .inl ⟨rfl, rfl⟩, fun ad h => (by cases h), ⟨hb4.wait, hb4.began, by simp only [HE.out]; exact hb4.lost, Nat.zero_le _⟩⟩, hUU3.setCell (.inr (by simp [One])) _⟩
        rw [block_set HB3.out]
        simp [gcells, HE.out]
      · have q : ((err : Int) != 0) = true := by rw [← nat_bne, bne_iff_ne]; exact he
        have hvv := hv he
        have HE := Lib.hid he
        have HV := Lib.hid hvv
        clear he hv hvv
        go_wp2
        go_ret3
        rw [HQ.out]
        refine ⟨v, rfl, fun _ => HV.out, ((HO.out.keep (((Upd.refl (One g) w3).setCell (.inr (by simp [One])) _).setCell (.inr (by simp [One])) _) (fun k hk => by have := (HO.out.ge k hk).1; have := hUU2.size; simp [One]; omega))).mono hUU2.size, ⟨none, 0, ?_, .inl ⟨rfl, rfl⟩, fun ad h => (by cases h), ⟨hb4.wait, hb4.began, by simp only [ne_eq, HE.out, not_false_eq_true, if_true]; omega, Nat.zero_le _⟩⟩, (hUU3.setCell (.inr (by simp [One])) _).setCell (.inr (by simp [One])) _⟩
        rw [block_set (block_set HB3.out _)]
        simp [gcells, HE.out]
    | false =>
      have hparts := parts_calls g s2 w2 HG2.out
      have HP := Lib.hid hparts
      clear hparts
      obtain ⟨q, hq⟩ : ∃ q, q = s2.b.length / 48 := ⟨_, rfl⟩
      rw [← hq] at HP
      by_cases hq21 : q < 21
      · have hr : R = (s2, [], 0, 2) := by rw [HRR.out, if_neg (by decide), if_pos (by omega)]
        have HQ := Lib.hid hr
        clear hr hq
        go_wp2_with (first
          | (go_at_call 12; refine HP.out.mono ?_; rintro e w3 ⟨rfl, hw3⟩; subst hw3)
          | (go_at_call 16; refine (many_calls _ (by omega) (by omega) _).mono ?_; rintro e w4 ⟨rfl, rfl⟩; rw [show ((1000 : Int).toNat) = 1000 from rfl, hm21]))
        go_ret3
        rw [HQ.out]
        exact ⟨_, rfl, fun _ => rfl, OwnB.nil _ _, HG2.out, hUU2⟩
      · have hr : R = ({ s2.lose with skips := true }, [], 0, 6) := by rw [HRR.out, if_neg (by decide), if_neg (by omega)]
        have HQ := Lib.hid hr
        have HN := Lib.hid hq
        clear hr hq
        go_wp2_with (first
          | (go_at_call 12; refine HP.out.mono ?_; rintro e w3 ⟨rfl, hw3⟩; subst hw3)
          | (go_at_call 16; refine (many_calls _ (by omega) (by omega) _).mono ?_; rintro e w4 ⟨rfl, rfl⟩; rw [show ((1000 : Int).toNat) = 1000 from rfl, hm21])
          | (go_at_call 27; refine Hid.out ?_))
        refine on ((lose_calls g s2 _ HG2.out hsl).mono ?_)
        rintro e w5 ⟨rfl, hg5, hU5⟩
        obtain ⟨a5, c5, hb1, hb2, hb3, hb4⟩ := hg5
        have hc5 := cells_at hb1
        unfold gcells at hc5
        have HB5 := Lib.hid hb1
        clear hb1 hc
        go_wp2
        go_ret3
        rw [HQ.out]
        refine ⟨_, rfl, fun _ => rfl, OwnB.nil _ _, ⟨a5, c5, ?_, hb2.upd ((Upd.refl (One g) w5).setCell (.inr (by simp [One])) _) (not_own hb3), hb3.upd ((Upd.refl (One g) _).setCell (.inr (by simp [One])) _), ⟨hb4.wait, hb4.began, hb4.lost, hb4.b⟩⟩, (hUU2.trans hU5).setCell (.inr (by simp [One])) _⟩
        rw [block_set HB5.out]
        rfl
end Go.Proofs.Ytddohdfccagbbaa
