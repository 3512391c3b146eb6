/- What the statement MessageFrames uses besides: few, Flip, Same of messages. -/
import Derived.Test.YtddohdfccagbbaaRows
import Derived.Test.YtddohdfccagbbaaBase
import Derived.Test.YtddohdfccagbbaaBytes
import Derived.Test.YtddohdfccagbbaaFrame
import Derived.Test.YtddohdfccagbbaaSame
import Derived.Test.YtddohdfccagbbaaElem
import Derived.Test.YtddohdfccagbbaaMsg
import Derived.Test.YtddohdfccagbbaaEUn
import Derived.Deep.RegionHeldLaw
namespace Go.Proofs.Ytddohdfccagbbaa
open Go.RowKit Go.Shelf
attribute [local go_sem] Oper.semAt_some

/-- Whether a message is of a size that is looked at. -/
def fewOf (L : List Ie) : Bool := L.all (fun x => decide (x.2.length ≤ 300)) && decide (L.length ≤ 20)
set_option maxRecDepth 100000 in
set_option maxHeartbeats 1000000 in
theorem few_calls (ref : Int) (back : Bool) (kind : Int) (v : Value) (L : List Ie) (w : World) (h : Ies w v L) :
    Calls Try.prog 18 #[.agg (msgV ref back kind v)] w fun e w' => e = .returned (.bool (fewOf L)) ∧ Upd No w w' := by
  unfold msgV
  obtain ⟨a, c, hv⟩ := h.shape
  have hbx := block_new w (.cells #[.int .i64 ref, .bool back, .int .i64 kind, v] 45)
  have hU0 : Upd No w (w.alloc (.cells #[.int .i64 ref, .bool back, .int .i64 kind, v] 45)) := (Upd.refl _ _).alloc _
  have HBX := Lib.hid hbx
  obtain ⟨r, hr⟩ : ∃ r, r = fewOf L := ⟨_, rfl⟩
  rw [← hr]
  have HR := Lib.hid hr
  have HH := Lib.hid h
  clear hbx hr h
  subst hv
  go_enter Try.func18, Try.ntmps18
  go_wp2
  go_loopw [3, 7] (fun _ i wr => ∃ k : Nat, k ≤ L.length ∧ i = .int .i64 k ∧ Hid (∀ j, j < k → (ieAt L j).2.length ≤ 300) ∧ Hid (wr.heap[w.heap.size]? = some (.cells #[.int .i64 ref, .bool back, .int .i64 kind, .slice a L.length c] 45 (0, 0))) ∧ Upd No w wr) (fun _ i _ => L.length - (intOf i).toNat)
  case atStart => exact ⟨0, by omega, rfl, fun j hj => absurd hj (by omega), HBX, hU0⟩
  case round =>
    obtain ⟨k, hk, rfl, hz, hbx, hU⟩ := hrel
    have d := cells_at hbx.out
    by_cases hlt : k < L.length
    · rcases HH.out with ⟨_, _, _, h0⟩ | ⟨b, off, cap, he, g1, g2, g3⟩
      · rw [h0] at hlt; simp at hlt
      · cases he
        obtain ⟨u, c1, c2, c3⟩ := g3 k hlt
        obtain ⟨au, cu, hu⟩ := c3.shape
        subst hu
        unfold maxLen at g2
        have c2r := hU.cell c2 (fun h => h)
        obtain ⟨m, hm⟩ : ∃ m, m = (ieAt L k).2.length := ⟨_, rfl⟩
        rw [← hm] at c2r
        have HM := Lib.hid hm
        clear g3 c1 c2 c3 hm
        by_cases hbig : 300 < m
        · have q : decide (300 < (m : Int)) = true := by rw [decide_eq_true_eq]; omega
          have hr : r = false := by
            rw [HR.out, fewOf, Bool.and_eq_false_iff]
            left
            rw [List.all_eq_false]
            refine ⟨L[k], List.getElem_mem hlt, ?_⟩
            have := HM.out
            simp [ieAt, hlt] at this
            simp
            omega
          have HRR := Lib.hid hr
          clear hr
          go_wp2
          go_ret
          exact ⟨by rw [HRR.out]; rfl, hU⟩
        · have q : decide (300 < (m : Int)) = false := by rw [decide_eq_false_iff_not]; omega
          go_wp2
          go_roundw
          case rel =>
            refine ⟨k + 1, by omega, by go_num, fun j hj => ?_, hbx, hU⟩
            by_cases e : j = k
            · rw [e, ← HM.out]; omega
            · exact hz.out j (by omega)
          case measure => simp [intOf]; omega
    · obtain rfl : k = L.length := by omega
      have hr : r = decide ((L.length : Int) ≤ 20) := by
        rw [HR.out, fewOf, show L.all (fun x => decide (x.2.length ≤ 300)) = true from by
          rw [List.all_eq_true]
          intro x hx
          obtain ⟨j, hj, rfl⟩ := List.getElem_of_mem hx
          have := hz.out j hj
          simpa [ieAt, hj] using this]
        simp
        omega
      have HRR := Lib.hid hr
      clear hr
      go_wp2
      go_ret
      exact ⟨by rw [HRR.out]; rfl, hU⟩

theorem u8_xor (a b : UInt8) : bits .xor .u8 (a.toNat : Int) (b.toNat : Int) = ((a.toNat ^^^ b.toNat : Nat) : Int) := by
  have ha' : a.toNat % 2 ^ IntKind.u8.bits = a.toNat := Nat.mod_eq_of_lt a.toNat_lt
  have hb' : b.toNat % 2 ^ IntKind.u8.bits = b.toNat := Nat.mod_eq_of_lt b.toNat_lt
  have hw : ∀ n : Nat, n < 256 → IntKind.u8.wrap (n : Int) = n := fun n h => by rw [IntKind.wrap_u8]; omega
  simp only [bits, BitVec.ofInt_natCast, BitVec.toNat_xor, BitVec.toNat_ofNat, ha', hb']
  exact hw _ (Nat.xor_lt_two_pow (n := 8) a.toNat_lt b.toNat_lt)
/-- The bytes with one bit turned. -/
def flipOf (l : List UInt8) (i : Nat) : List UInt8 := l.set (i / 8) ((l[i / 8]?.getD 0) ^^^ ((128 : UInt8) >>> UInt8.ofNat (i % 8)))
set_option maxRecDepth 100000 in
set_option maxHeartbeats 4000000 in
theorem flip_calls (v : Value) (l : List UInt8) (i : Nat) (w : World) (h : Bytes w v l) (hl : l.length ≤ 100000) (hi : i < 8 * l.length) :
    Calls Try.prog 22 #[v, .int .i64 (i : Int)] w fun e w' => ∃ v', e = .returned v' ∧ Bytes w' v' (flipOf l i) ∧ Upd No w w' := by
  have HV := Lib.hid h
  obtain ⟨q, hq⟩ : ∃ q, q = i / 8 := ⟨_, rfl⟩
  obtain ⟨s, hs⟩ : ∃ s, s = i % 8 := ⟨_, rfl⟩
  have e1 : (i : Int) / 8 = (q : Int) := by omega
  have e2 : (i : Int) % 8 = (s : Int) := by omega
  have hql : q < l.length := by omega
  have hs8 : s < 8 := by omega
  have hfl : flipOf l i = l.set q ((l[q]?.getD 0) ^^^ ((128 : UInt8) >>> UInt8.ofNat s)) := by rw [flipOf, hq, hs]
  rw [hfl]
  obtain ⟨x, hx⟩ : ∃ x, x = l[q]?.getD 0 := ⟨_, rfl⟩
  rw [← hx]
  have HX := Lib.hid hx
  clear h hq hs hfl hx
  go_enter Try.func22, Try.ntmps22
  go_wp2_with (with_reducible refine stop_builtin .append ?_)
  refine on (wpList_append_e rfl (.tmp 6) (.tmp 7) rfl w (.slice (some ⟨w.heap.size, 0, none⟩) 0 0) v rfl rfl [] l (OwnB.made (l := []) (by simpa [rowOf] using block_new w (.cells #[] 5)) (Nat.le_refl _) (by simp)) (.inl (HV.out.no ((Upd.refl _ _).alloc _))) (by simp; omega) ((Upd.refl _ _).alloc _) ?_)
  intro v3 w3 ho3 hU3 _ hn3
  rw [List.nil_append] at ho3
  obtain ⟨_, ⟨rfl, h0⟩ | ⟨g, cap, cur, rfl, hb, hg, hn, hc, hsz, ht⟩⟩ := id ho3
  · simp at hn3
  · have hcell : ∀ j, j < l.length → w3.cell? ⟨g, j, none⟩ = some (.int .u8 ((l[j]?.getD 0).toNat : Int)) := by
      have := ho3.bytes.known
      intro j hj
      simpa using this.2.2.2.2 j hj
    have c0 := hcell q hql
    have fz := (cells_at hg).2 q
    rw [← HX.out] at c0
    have HC := Lib.hid hcell
    have HG := Lib.hid hg
    have hsp : (128 : Int) / 2 ^ s = (((128 : UInt8) >>> UInt8.ofNat s).toNat : Int) := by
      match s, hs8 with
      | 0, _ => rfl
      | 1, _ => rfl
      | 2, _ => rfl
      | 3, _ => rfl
      | 4, _ => rfl
      | 5, _ => rfl
      | 6, _ => rfl
      | 7, _ => rfl
    have hxo : bits .xor .u8 (x.toNat : Int) ((128 : Int) / 2 ^ s) = ((x ^^^ ((128 : UInt8) >>> UInt8.ofNat s)).toNat : Int) := by
      rw [hsp, u8_xor, UInt8.toNat_xor]
    have HXO := Lib.hid hxo
    clear hsp hxo
    unfold maxLen at hc
    have hlt := heap_lt hg
    clear ho3 hn3 hcell hg ht hsz
    go_wp2
    go_region
    rw [HXO.out]
    have hU4 := (hU3.setCell (p := ⟨g, q, none⟩) (.inl hb) (.int .u8 ((x ^^^ ((128 : UInt8) >>> UInt8.ofNat s)).toNat : Int))).drew
    have hbf : Bytes (w3.setCell ⟨g, q, none⟩ (.int .u8 ((x ^^^ ((128 : UInt8) >>> UInt8.ofNat s)).toNat : Int))).drew (.slice (some ⟨g, 0, none⟩) l.length cap) (l.set q (x ^^^ ((128 : UInt8) >>> UInt8.ofNat s))) := by
      refine .inr ⟨g, 0, cap, by simp, by simpa using hn, by unfold maxLen; omega, by simpa using hlt, fun j hj => ?_⟩
      rw [List.length_set] at hj
      rw [Nat.zero_add]
      by_cases e : j = q
      · subst e
        have := World.cell?_setCell_same (v := .int .u8 ((x ^^^ ((128 : UInt8) >>> UInt8.ofNat s)).toNat : Int)) w3 ⟨g, j, none⟩ c0
        rw [List.getElem?_set_self hql]
        exact this
      · have := World.cell?_setCell_other w3 ⟨g, q, none⟩ ⟨g, j, none⟩ (.int .u8 ((x ^^^ ((128 : UInt8) >>> UInt8.ofNat s)).toNat : Int)) (by intro h; simp at h <;> omega)
        rw [List.getElem?_set_ne (by omega)]
        exact this.trans (HC.out j hj)
    have HBF := Lib.hid hbf
    clear hbf c0 fz
    go_wp2
    go_ret
    exact ⟨_, rfl, HBF.out, hU4⟩

theorem same_e (v1 v2 : Value) (l : List UInt8) (w : World) (h1 : BytesE w v1 l) (h2 : BytesE w v2 l) (hl : l.length ≤ 100000000000) :
    Calls Try.prog 14 #[v1, v2] w fun e w' => e = .returned (.bool true) ∧ Upd No w w' := by
  by_cases h0 : l = []
  · obtain ⟨a1, c1, e1⟩ := h1.shape
    obtain ⟨a2, c2, e2⟩ := h2.shape
    subst h0
    rw [e1, e2]
    exact (same_nil a1 a2 c1 c2 w).mono fun e w' ⟨he, hw⟩ => ⟨he, by rw [hw]; exact Upd.refl _ _⟩
  · have b1 : Bytes w v1 l := by
      rcases h1 with h | ⟨_, _, _, h⟩
      · exact h
      · exact absurd h h0
    have b2 : Bytes w v2 l := by
      rcases h2 with h | ⟨_, _, _, h⟩
      · exact h
      · exact absurd h h0
    have := same_calls v1 v2 l l w b1 b2 hl
    rwa [beq_self_eq_true] at this
set_option maxRecDepth 100000 in
set_option maxHeartbeats 4000000 in
theorem same15_calls (v1 v2 : Value) (L : List Ie) (w : World) (h1 : Ies w v1 L) (h2 : Ies w v2 L) (hl : ∀ k, k < L.length → (ieAt L k).2.length ≤ 300) :
    Calls Try.prog 37 #[v1, v2] w fun e w' => e = .returned (.bool true) ∧ Upd No w w' := by
  obtain ⟨a1, c1, e1⟩ := h1.shape
  obtain ⟨a2, c2, e2⟩ := h2.shape
  have H1 := Lib.hid h1
  have H2 := Lib.hid h2
  have HL := Lib.hid hl
  have q : ((L.length : Int) != (L.length : Int)) = false := by rw [bne_eq_false_iff_eq]
  clear h1 h2 hl
  subst e1 e2
  go_enter Try.func37, Try.ntmps37
  go_wp2
  go_loopw [5, 13] (fun _ i wr => ∃ k : Nat, k ≤ L.length ∧ i = .int .i64 k ∧ Upd No w wr) (fun _ i _ => L.length - (intOf i).toNat)
  case atStart => exact ⟨0, by omega, rfl, Upd.refl _ _⟩
  case round =>
    obtain ⟨k, hk, rfl, hU⟩ := hrel
    by_cases hlt : k < L.length
    · rcases H1.out with ⟨_, _, _, h0⟩ | ⟨b, off, cap, he, g1, g2, g3⟩
      · rw [h0] at hlt; simp at hlt
      · rcases H2.out with ⟨_, _, _, h0⟩ | ⟨b', off', cap', he', g1', g2', g3'⟩
        · rw [h0] at hlt; simp at hlt
        · cases he
          cases he'
          obtain ⟨u, d1, d2, d3⟩ := g3 k hlt
          obtain ⟨u', d1', d2', d3'⟩ := g3' k hlt
          have hb300 := HL.out k hlt
          generalize ieAt L k = X at d1 d2 d3 d1' d2' d3' hb300
          obtain ⟨x, l⟩ := X
          simp only at d1 d2 d3 d1' d2' d3' hb300
          obtain ⟨au, cu, hu⟩ := d3.shape
          obtain ⟨au', cu', hu'⟩ := d3'.shape
          subst hu hu'
          unfold maxLen at g2 g2'
          have E1 := Lib.hid d1
          have E2 := Lib.hid d2
          have E1' := Lib.hid d1'
          have E2' := Lib.hid d2'
          have B3 := Lib.hid d3
          have B3' := Lib.hid d3'
          have qx : ((x.toNat : Int) != (x.toNat : Int)) = false := by rw [bne_eq_false_iff_eq]
          clear g3 g3' d1 d2 d3 d1' d2' d3'
          go_wp2
          go_region_held_law (fun w' => w'.cell? ⟨b, off + k * 2, none⟩ = some (byteV x) ∧ w'.cell? ⟨b, off + k * 2 + 1, none⟩ = some (.slice au l.length cu) ∧ w'.cell? ⟨b', off' + k * 2, none⟩ = some (byteV x) ∧ w'.cell? ⟨b', off' + k * 2 + 1, none⟩ = some (.slice au' l.length cu'))
            (first | exact ⟨(hU.drew).cell E1.out (fun h => h), (hU.drew).cell E2.out (fun h => h), (hU.drew).cell E1'.out (fun h => h), (hU.drew).cell E2'.out (fun h => h)⟩ | exact ⟨hU5.cell E1.out (fun h => h), hU5.cell E2.out (fun h => h), hU5.cell E1'.out (fun h => h), hU5.cell E2'.out (fun h => h)⟩)
            (first
              | (go_simp; go_at_call 14; refine (same_e _ _ l wr.drew (B3.out.no hU.drew) (B3'.out.no hU.drew) (by omega)).mono ?_; rintro e w5 ⟨rfl, hUs⟩; have hU5 := hU.drew.trans hUs))
          go_wp2
          go_roundw
          case rel => exact ⟨k + 1, by omega, by go_num, hU5⟩
          case measure => simp [intOf]; omega
    · obtain rfl : k = L.length := by omega
      go_wp2
      go_ret
      exact ⟨rfl, hU⟩

theorem same16_calls (ref : Int) (back : Bool) (kind : Int) (v1 v2 : Value) (L : List Ie) (w : World) (h1 : Ies w v1 L) (h2 : Ies w v2 L) (hl : ∀ k, k < L.length → (ieAt L k).2.length ≤ 300) :
    Calls Try.prog 23 #[.agg (msgV ref back kind v1), .agg (msgV ref back kind v2)] w fun e w' => e = .returned (.bool true) ∧ Upd No w w' := by
  unfold msgV
  obtain ⟨W, hW⟩ : ∃ W, W = (w.alloc (.cells #[.int .i64 ref, .bool back, .int .i64 kind, v1] 45)).alloc (.cells #[.int .i64 ref, .bool back, .int .i64 kind, v2] 45) := ⟨_, rfl⟩
  have hU : Upd No w W := by rw [hW]; exact ((Upd.refl _ _).alloc _).alloc _
  have hs := same15_calls v1 v2 L W (h1.no hU) (h2.no hU) hl
  have HS := Lib.hid hs
  have HW := Lib.hid hW
  have q1 : (ref == ref) = true := beq_self_eq_true _
  have q2 : (kind == kind) = true := beq_self_eq_true _
  clear hs hW h1 h2
  go_enter Try.func23, Try.ntmps23
  go_wp2_with fail
  rw [← HW.out]
  refine HS.out.mono ?_
  rintro e w2 ⟨rfl, hU2⟩
  go_wp2
  go_ret
  exact ⟨rfl, hU.trans hU2⟩

/-! ### The cause of a message with one element, of two bytes -/
theorem find1_calls (a : Option Addr) (n c p : Nat) (w : World) (hp : w.cell? ⟨p, 0, none⟩ = some (.int .u8 8)) :
    Calls Try.prog 48 #[.agg #[byteV 8, .slice a n c], .pointer (some ⟨p, 0, none⟩)] w fun e w' => e = .returned (.bool true) ∧ Upd No w w' := by
  rw [show byteV 8 = Value.int .u8 8 from rfl]
  have hlt : p < w.heap.size := World.block_lt_of_cell? w _ hp
  go_enter Try.func48, Try.ntmps48
  go_wp2
  go_ret
  exact ⟨rfl, (Upd.refl _ _).alloc _⟩
set_option maxRecDepth 100000 in
set_option maxHeartbeats 1000000 in
theorem idx1_calls (v : Value) (body : List UInt8) (p : Nat) (w : World) (h : Ies w v [(8, body)]) (hp : w.cell? ⟨p, 0, none⟩ = some (.int .u8 8)) :
    Calls Try.prog 47 #[v, .func (.func 48) #[] #[.pointer (some ⟨p, 0, none⟩)]] w fun e w' => e = .returned (.int .i64 0) ∧ Upd No w w' := by
  rcases h with ⟨_, _, _, h0⟩ | ⟨b, off, cap, rfl, g1, g2, g3⟩
  · simp at h0
  · obtain ⟨u, d1, d2, d3⟩ := g3 0 (by simp)
    obtain ⟨au, cu, hu⟩ := d3.shape
    subst hu
    have hld := run_load61 d1 d2
    have HLD := Lib.hid hld
    have HP := Lib.hid hp
    unfold maxLen at g2
    rw [show ([(8, body)] : List Ie).length = 1 from rfl] at *
    clear g3 d1 d2 d3 hld hp
    go_enter Try.func47, Try.ntmps47
    go_wp2
    go_loop [5, 8] (fun _ i => i = .int .i64 0) (fun _ _ => 0)
    case atStart => rfl
    case round =>
      subst hrel
      go_wp2_with (with_reducible refine stop_dst 15 ?_)
      refine on (wpList_run rfl (exec_load rfl rfl HLD.out) ?_)
      go_wp2_with fail
      refine (find1_calls _ _ _ _ _ HP.out).mono ?_
      rintro e w2 ⟨rfl, hU⟩
      go_wp2
      go_ret
      exact ⟨rfl, hU⟩
end Go.Proofs.Ytddohdfccagbbaa
