/- message: bytes as a message. -/
import Derived.Test.YtddohdfccagbbaaRows
import Derived.Test.YtddohdfccagbbaaBase
import Derived.Test.YtddohdfccagbbaaBytes
import Derived.Test.YtddohdfccagbbaaFrame
import Derived.Test.YtddohdfccagbbaaElem
import Derived.Test.YtddohdfccagbbaaMsg
import Derived.Test.YtddohdfccagbbaaEUn
namespace Go.Proofs.Ytddohdfccagbbaa
open Go.RowKit Go.Shelf
attribute [local go_sem] Oper.semAt_some

theorem or_join (a b : Nat) (ha : a < 4294967296) (hb : b < 256) : bits .or .i64 ((a : Int) * 256) (b : Int) = ((a * 256 + b : Nat) : Int) := by
  rw [bits_join .i64 63 (by decide) (fun n h0 h1 => by rw [IntKind.wrap_i64]; omega) 8 _ _ (by omega) (by omega) (by omega) (by omega) (by omega) (by omega)]
  omega
theorem or_three (x y z : UInt8) : bits .or .i64 (bits .or .i64 ((x.toNat : Int) * 65536) ((y.toNat : Int) * 256)) (z.toNat : Int) = ((x.toNat * 65536 + y.toNat * 256 + z.toNat : Nat) : Int) := by
  have lx := x.toNat_lt
  have ly := y.toNat_lt
  have lz := z.toNat_lt
  have h1 : bits .or .i64 ((x.toNat : Int) * 65536) ((y.toNat : Int) * 256) = (((x.toNat * 256 + y.toNat : Nat) : Int)) * 256 := by
    rw [bits_join .i64 63 (by decide) (fun n h0 h1 => by rw [IntKind.wrap_i64]; omega) 16 _ _ (by omega) (by omega) (by omega) (by omega) (by omega) (by omega)]
    omega
  rw [h1, or_join _ _ (by omega) (by omega), show (x.toNat * 256 + y.toNat) * 256 + z.toNat = x.toNat * 65536 + y.toNat * 256 + z.toNat from by omega]
theorem IesOwn.keep {S : Nat → Prop} {w0 w w' : World} {v : Value} {L : List Ie} (h : IesOwn w0 w v L) (hU : Upd S w w') (hS : ∀ k, w0.heap.size ≤ k → ¬ S k) : IesOwn w0 w' v L := by
  obtain ⟨cs, ho, hl, hj⟩ := h
  refine ⟨cs, ⟨ho.1, ?_⟩, hl, fun j hjl => ?_⟩
  · rcases ho.2 with hn | ⟨g, cap, cur, rfl, hb, hgg, rest⟩
    · exact .inl hn
    · exact .inr ⟨g, cap, cur, rfl, hb, hU.at hgg (hS g hb), rest⟩
  · obtain ⟨u, h1, h2, h3⟩ := hj j hjl
    exact ⟨u, h1, h2, h3.keep hU (fun k hk => hS k (h3.ge k hk).1)⟩
set_option maxRecDepth 100000 in
set_option maxHeartbeats 4000000 in
theorem munpack_calls (v : Value) (ref : Int) (back : Bool) (kind : Int) (L : List Ie) (w : World) (h : Bytes w v (msgBytes ref back kind L)) (hr : msgRight ref kind L = true) (hlen : (msgBytes ref back kind L).length ≤ 1000) :
    Calls Try.prog 21 #[v] w fun e w' => ∃ v', e = .returned (.tuple #[.agg (msgV ref back kind v'), .int .i64 0]) ∧ Ies w' v' L ∧ Upd No w w' := by
  have hright : iesFit L = true ∧ 1 ≤ ref ∧ ref ≤ 8388607 ∧ knownK kind = true := by
    simp only [msgRight] at hr
    simp at hr
    exact ⟨hr.2, hr.1.1.1, hr.1.1.2, hr.1.2⟩
  obtain ⟨hfit, hr1, hr2, hkn⟩ := hright
  have hel := iesFit_len hfit
  have hk : 0 ≤ kind ∧ kind < 256 := by simp [knownK] at hkn; omega
  obtain ⟨E, hE⟩ : ∃ E, E = iesBytes L := ⟨_, rfl⟩
  obtain ⟨N, hN⟩ : ∃ N, N = refN ref back := ⟨_, rfl⟩
  obtain ⟨es, hes⟩ : ∃ es, es = E.length := ⟨_, rfl⟩
  rw [← hE, ← hes] at hel
  have hM : msgBytes ref back kind L = [9, 3, UInt8.ofNat (N / 65536), UInt8.ofNat (N / 256), UInt8.ofNat N, UInt8.ofNat kind.toNat, 128, UInt8.ofNat (es / 256), UInt8.ofNat es] ++ E := by rw [msgBytes, hes, hN, hE]; rfl
  rw [hM] at h hlen
  have hNr : (N : Int) = ref + (if back then 8388608 else 0) := by rw [hN, refN]; cases back <;> simp <;> omega
  have hNl : N < 16777216 := by cases back <;> simp at hNr <;> omega
  rcases h with ⟨_, h0⟩ | ⟨b, off, cap, rfl, g1, g2, g3, g4⟩
  · simp at h0
  · have hB : Bytes w (.slice (some ⟨b, off, none⟩) ([9, 3, UInt8.ofNat (N / 65536), UInt8.ofNat (N / 256), UInt8.ofNat N, UInt8.ofNat kind.toNat, 128, UInt8.ofNat (es / 256), UInt8.ofNat es] ++ E).length cap) ([9, 3, UInt8.ofNat (N / 65536), UInt8.ofNat (N / 256), UInt8.ofNat N, UInt8.ofNat kind.toNat, 128, UInt8.ofNat (es / 256), UInt8.ofNat es] ++ E) := .inr ⟨b, off, cap, rfl, g1, g2, g3, g4⟩
    obtain ⟨x2, hx2⟩ : ∃ x, x = UInt8.ofNat (N / 65536) := ⟨_, rfl⟩
    obtain ⟨x1, hx1⟩ : ∃ x, x = UInt8.ofNat (N / 256) := ⟨_, rfl⟩
    obtain ⟨x0, hx0⟩ : ∃ x, x = UInt8.ofNat N := ⟨_, rfl⟩
    obtain ⟨xk, hxk⟩ : ∃ x, x = UInt8.ofNat kind.toNat := ⟨_, rfl⟩
    obtain ⟨y1, hy1⟩ : ∃ x, x = UInt8.ofNat (es / 256) := ⟨_, rfl⟩
    obtain ⟨y0, hy0⟩ : ∃ x, x = UInt8.ofNat es := ⟨_, rfl⟩
    rw [← hx2, ← hx1, ← hx0, ← hxk, ← hy1, ← hy0] at hB g1 g4 hlen
    obtain ⟨n, hn⟩ : ∃ n, n = ([9, 3, x2, x1, x0, xk, 128, y1, y0] ++ E).length := ⟨_, rfl⟩
    rw [← hx2, ← hx1, ← hx0, ← hxk, ← hy1, ← hy0, ← hn]
    rw [← hn] at hB g1 g4 hlen
    have hn9 : n = 9 + es := by rw [hn, hes]; simp; omega
    have l0 : ∀ j, j < 9 → w.cell? ⟨b, off + j, none⟩ = some (.int .u8 ((([9, 3, x2, x1, x0, xk, 128, y1, y0] : List UInt8)[j]?.getD 0).toNat : Int)) := fun j hj => by
      have := g4 j (by omega)
      rwa [List.getElem?_append_left (by simpa using hj)] at this
    have c0 := l0 0 (by decide)
    have c1 := l0 1 (by decide)
    have c2 := l0 2 (by decide)
    have c3 := l0 3 (by decide)
    have c4 := l0 4 (by decide)
    have c5 := l0 5 (by decide)
    have c6 := l0 6 (by decide)
    have c7 := l0 7 (by decide)
    have c8 := l0 8 (by decide)
    simp only [List.getElem?_cons_zero, List.getElem?_cons_succ, Option.getD_some, Nat.add_zero] at c0 c1 c2 c3 c4 c5 c6 c7 c8
    have oN : bits .or .i64 (bits .or .i64 ((x2.toNat : Int) * 65536) ((x1.toNat : Int) * 256)) (x0.toNat : Int) = (N : Int) := by
      rw [or_three, hx2, hx1, hx0]
      simp
      omega
    have oE : bits .or .i64 ((y1.toNat : Int) * 256) (y0.toNat : Int) = (es : Int) := by
      rw [or_bytes, hy1, hy0]
      simp
      omega
    have aN : bits .and .i64 (N : Int) 8388607 = ref := by
      rw [show (8388607 : Int) = 2 ^ 23 - 1 from rfl, bits_mask .i64 63 (by decide) (fun n h0 h1 => by rw [IntKind.wrap_i64]; omega) 23 (by decide) _ (by omega) (by omega)]
      cases back <;> simp at hNr <;> omega
    have kK : (xk.toNat : Int) = kind := by rw [hxk]; simp; omega
    subst kK
    obtain ⟨o9, r9, B9⟩ := cut_rest (i := 9) hB (by omega) (lo := 9) rfl
    rw [show ([9, 3, x2, x1, x0, xk, 128, y1, y0] ++ E).drop 9 = E from rfl, hE] at B9
    have hep := fun W (hU : Upd No w W) => eunpack_calls (.slice (some ⟨b, o9, none⟩) (n - 9) (cap - 9)) L W (B9.no hU) hfit
    have q1 : decide (1000 < (n : Int)) = false := by rw [decide_eq_false_iff_not]; omega
    have q2 : decide ((n : Int) < 9) = false := by rw [decide_eq_false_iff_not]; omega
    have q3 : decide ((n : Int) - 9 < (es : Int)) = false := by rw [decide_eq_false_iff_not]; omega
    have q4 : decide ((es : Int) < (n : Int) - 9) = false := by rw [decide_eq_false_iff_not]; omega
    have q5 : decide (8388607 < (N : Int)) = back := by cases back <;> simp at hNr ⊢ <;> omega
    have q6 : (ref == 0) = false := by rw [beq_eq_false_iff_ne]; omega
    have hn4 : 9 ≤ n := by omega
    have hkc := fun W => known_calls (xk.toNat : Int) W
    rw [hkn] at hkc
    have HC0 := Lib.hid c0
    have HC1 := Lib.hid c1
    have HC5 := Lib.hid c5
    have HC6 := Lib.hid c6
    have HC7 := Lib.hid c7
    have HC8 := Lib.hid c8
    have HEP := Lib.hid hep
    have HKC := Lib.hid hkc
    have HON := Lib.hid oN
    have HOE := Lib.hid oE
    have l2 := x2.toNat_lt
    have l1 := x1.toNat_lt
    have l0' := x0.toNat_lt
    have lk := xk.toNat_lt
    have m1 := y1.toNat_lt
    have m0 := y0.toNat_lt
    unfold maxLen at g2
    clear hep hkc hM hNr hN hE hes hx2 hx1 hx0 hxk hy1 hy0 hn hn9 hB B9 g3 g4 l0 hfit hkn hr hel
    go_enter Try.func21, Try.ntmps21
    go_wp2
    obtain ⟨W, hW⟩ : ∃ W, W = w.alloc (.cells #[.int .i64 0, .bool false, .int .i64 0, .slice none 0 0] 45) := ⟨_, rfl⟩
    have hUW : Upd No w W := by rw [hW]; exact (Upd.refl _ _).alloc _
    have hres : W.heap[w.heap.size]? = some (.cells #[.int .i64 0, .bool false, .int .i64 0, .slice none 0 0] 45 (0, 0)) := by rw [hW]; exact block_new _ _
    rw [← hW]
    have HRES := Lib.hid hres
    have c2 := hUW.cell c2 (fun h => h)
    have c3 := hUW.cell c3 (fun h => h)
    have c4 := hUW.cell c4 (fun h => h)
    clear hW hres c0 c1 c5 c6 c7 c8
    go_quiet (fail)
    obtain ⟨W2, hW2⟩ : ∃ W2, W2 = W.drewN nq := ⟨_, rfl⟩
    have hU2 : Upd No w W2 := by rw [hW2]; exact hUW.drewN nq
    have hr2' : W2.heap[w.heap.size]? = some (.cells #[.int .i64 0, .bool false, .int .i64 0, .slice none 0 0] 45 (0, 0)) := by rw [hW2]; exact HRES.out
    rw [← hW2]
    have HRES2 := Lib.hid hr2'
    have c5 := hU2.cell HC5.out (fun h => h)
    clear hW2 hr2' c2 c3 c4 hUW HRES
    go_wp2
    obtain ⟨W3, hW3⟩ : ∃ W3, W3 = W2.alloc (.cells #[.int .i64 ref, .bool back, .int .i64 (xk.toNat : Int), .slice none 0 0] 45) := ⟨_, rfl⟩
    have hU3 : Upd No w W3 := by rw [hW3]; exact hU2.alloc _
    have hr3 : W3.heap[w.heap.size]? = some (.cells #[.int .i64 0, .bool false, .int .i64 0, .slice none 0 0] 45 (0, 0)) := by rw [hW3]; exact block_old HRES2.out _
    have hb3 : W3.heap[W2.heap.size]? = some (.cells #[.int .i64 ref, .bool back, .int .i64 (xk.toNat : Int), .slice none 0 0] 45 (0, 0)) := by rw [hW3]; exact block_new _ _
    have hlt3 := heap_lt HRES2.out
    rw [← hW3]
    have HR3 := Lib.hid hr3
    have HB3 := Lib.hid hb3
    have c7 := hU3.cell HC7.out (fun h => h)
    have c8 := hU3.cell HC8.out (fun h => h)
    have oE := HOE.out
    clear hW3 hr3 hb3 c5 hU2 HRES2
    go_quiet (fail)
    obtain ⟨W4, hW4⟩ : ∃ W4, W4 = W3.drewN nq := ⟨_, rfl⟩
    have hU4 : Upd No w W4 := by rw [hW4]; exact hU3.drewN nq
    have hr4 : W4.heap[w.heap.size]? = some (.cells #[.int .i64 0, .bool false, .int .i64 0, .slice none 0 0] 45 (0, 0)) := by rw [hW4]; exact HR3.out
    have hb4 : W4.heap[W2.heap.size]? = some (.cells #[.int .i64 ref, .bool back, .int .i64 (xk.toNat : Int), .slice none 0 0] 45 (0, 0)) := by rw [hW4]; exact HB3.out
    rw [← hW4]
    have HR4 := Lib.hid hr4
    have HB4 := Lib.hid hb4
    have d4 := cells_at hb4
    have c0 := hU4.cell HC0.out (fun h => h)
    have c1 := hU4.cell HC1.out (fun h => h)
    have c6 := hU4.cell HC6.out (fun h => h)
    clear hW4 hr4 hb4 c7 c8 hU3 HR3 HB3 oE
    go_wp2_with fail
    refine (HKC.out W4).mono ?_
    rintro e w5 ⟨rfl, hw5⟩
    subst hw5
    go_wp2_with fail
    refine (HEP.out w5 hU4).mono ?_
    rintro e w6 ⟨v6, rfl, hie, hU6⟩
    obtain ⟨a6, c6', hv6⟩ := hie.shape
    subst hv6
    have hU56 : Upd No w w6 := hU4.trans hU6
    have hr6 := hU6.at HR4.out (fun h => h)
    have hb6 := hU6.at HB4.out (fun h => h)
    have d6 := cells_at hb6
    have e6 := cells_at hr6
    have HI6 := Lib.hid hie
    clear d4 c0 c1 c6
    have hlt6 := heap_lt hb6
    go_wp2
    have hw5 : W2.heap.size < w5.heap.size := heap_lt HB4.out
    obtain ⟨WF, hWF⟩ : ∃ WF, WF = ((((w6.setCell ⟨W2.heap.size, 3, none⟩ (.slice a6 L.length c6')).setCell ⟨w.heap.size, 0, none⟩ (.int .i64 ref)).setCell ⟨w.heap.size, 1, none⟩ (.bool back)).setCell ⟨w.heap.size, 2, none⟩ (.int .i64 (xk.toNat : Int))).setCell ⟨w.heap.size, 3, none⟩ (.slice a6 L.length c6') := ⟨_, rfl⟩
    have s0 := block_other hr6 (a := ⟨W2.heap.size, 3, none⟩) (by simp; omega) (.slice a6 L.length c6')
    have s4 := block_set (i := 3) (block_set (i := 2) (block_set (i := 1) (block_set (i := 0) s0 (.int .i64 ref)) (.bool back)) (.int .i64 (xk.toNat : Int))) (.slice a6 L.length c6')
    rw [← hWF] at s4 ⊢
    have hS : Upd (Two w.heap.size W2.heap.size) w6 WF := by
      rw [hWF]
      exact (((((Upd.refl _ w6).setCell (.inr (by simp [Two])) _).setCell (.inr (by simp [Two])) _).setCell (.inr (by simp [Two])) _).setCell (.inr (by simp [Two])) _).setCell (.inr (by simp [Two])) _
    have hUF : Upd No w WF := hU56.then hS (fun i hi e => by simp [Two] at e; omega)
    have hies := (HI6.out.keep hS (fun k hk e => by simp [Two] at e; omega)).ies
    have f0 : WF.cell? ⟨w.heap.size, 0, none⟩ = some (.int .i64 ref) := by rw [(cells_at s4).1 0]; rfl
    have f1 : WF.cell? ⟨w.heap.size, 1, none⟩ = some (.bool back) := by rw [(cells_at s4).1 1]; rfl
    have f2 : WF.cell? ⟨w.heap.size, 2, none⟩ = some (.int .i64 (xk.toNat : Int)) := by rw [(cells_at s4).1 2]; rfl
    have f3 : WF.cell? ⟨w.heap.size, 3, none⟩ = some (.slice a6 L.length c6') := by rw [(cells_at s4).1 3]; rfl
    clear hWF s0 s4 hS d6 e6
    refine bodyPost_ret (v := .tuple #[.agg #[.int .i64 ref, .bool back, .int .i64 (xk.toNat : Int), .slice a6 L.length c6'], .int .i64 0]) ?_ rfl ⟨_, rfl, hies, hUF⟩
    simp [results, Try.results21, go_sem, f0, f1, f2, f3]
end Go.Proofs.Ytddohdfccagbbaa
