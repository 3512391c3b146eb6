/- element: bytes as elements. -/
import Derived.Test.YtddohdfccagbbaaRows
import Derived.Test.YtddohdfccagbbaaBase
import Derived.Test.YtddohdfccagbbaaBytes
import Derived.Test.YtddohdfccagbbaaFrame
import Derived.Test.YtddohdfccagbbaaCells
import Derived.Test.YtddohdfccagbbaaElem
import Derived.Test.YtddohdfccagbbaaMsg
import Derived.Deep.RegionHeldLaw
namespace Go.Proofs.Ytddohdfccagbbaa
open Go.RowKit Go.Shelf
attribute [local go_sem] Oper.semAt_some

theorem or_bytes (x y : UInt8) : bits .or .i64 ((x.toNat : Int) * 256) (y.toNat : Int) = ((x.toNat * 256 + y.toNat : Nat) : Int) := by
  have lt2 := x.toNat_lt
  have lt3 := y.toNat_lt
  rw [bits_join .i64 63 (by decide) (fun n h0 h1 => by rw [IntKind.wrap_i64]; omega) 8 _ _ (by omega) (by omega) (by omega) (by omega) (by omega) (by omega)]
  omega
theorem or_zero (x : UInt8) : bits .or .i64 0 (x.toNat : Int) = (x.toNat : Int) := by
  have := or_bytes 0 x
  simpa using this
set_option maxRecDepth 100000 in
set_option maxHeartbeats 1000000 in
theorem get_calls (b o c : Nat) (x y : UInt8) (w : World) (h : Bytes w (.slice (some ⟨b, o, none⟩) 2 c) [x, y]) :
    Calls Try.prog 45 #[.slice (some ⟨b, o, none⟩) 2 c] w fun e w' => e = .returned (.int .i64 ((x.toNat * 256 + y.toNat : Nat) : Int)) ∧ w' = w := by
  obtain ⟨_, h1, h2, h3, h4⟩ := h.known
  unfold maxLen at h2
  have c0 := h4 0 (by omega)
  have c1 := h4 1 (by omega)
  simp only [List.getElem?_cons_zero, List.getElem?_cons_succ, Option.getD_some, Nat.add_zero] at c0 c1
  have lx : x.toNat < 256 := x.toNat_lt
  have ly : y.toNat < 256 := y.toNat_lt
  obtain ⟨N, hN⟩ : ∃ N, N = x.toNat * 256 + y.toNat := ⟨_, rfl⟩
  have o1 := or_bytes x y
  have o0 := or_zero x
  rw [← hN] at o1 ⊢
  have hNl : N < 65536 := by omega
  clear h h4 hN
  go_enter Try.func45, Try.ntmps45
  go_wp2
  go_loop [3, 5, 8] (fun n _ i => (i = .int .i64 0 ∧ n = .int .i64 0) ∨ (i = .int .i64 1 ∧ n = .int .i64 (x.toNat : Int)) ∨ (i = .int .i64 2 ∧ n = .int .i64 (N : Int))) (fun _ _ i => (2 - intOf i).toNat)
  case atStart => exact .inl ⟨rfl, rfl⟩
  case round =>
    obtain ⟨rfl, rfl⟩ | ⟨rfl, rfl⟩ | ⟨rfl, rfl⟩ := hrel
    · go_wp2
      go_round
      case rel => exact .inr (.inl ⟨by go_num, by go_num⟩)
      case measure => simp [intOf]
    · go_wp2
      go_round
      case rel => exact .inr (.inr ⟨by go_num, by go_num⟩)
      case measure => simp [intOf]
    · go_wp2
      go_ret
      exact ⟨rfl, rfl⟩

/-! ### A row of elements of one's own -/
def IesOwn (w0 w : World) (v : Value) (L : List Ie) : Prop := ∃ cs : List Value, w.ownsRow w0.heap.size 61 2 v L.length cs ∧ cs.length = 2 * L.length ∧
  ∀ j, j < L.length → ∃ u, cs[j * 2]? = some (byteV (ieAt L j).1) ∧ cs[j * 2 + 1]? = some u ∧ OwnB w w0.heap.size u (ieAt L j).2
theorem IesOwn.nil (w0 w : World) : IesOwn w0 w (.slice none 0 0) [] := ⟨[], World.ownsRow_nil w _ _ _, rfl, fun j hj => absurd hj (by simp)⟩
theorem IesOwn.ies {w0 w : World} {v : Value} {L : List Ie} (h : IesOwn w0 w v L) : Ies w v L := by
  obtain ⟨cs, ⟨_, hc⟩, hl, hj⟩ := h
  rcases hc with ⟨rfl, h0⟩ | ⟨g, cap, cur, rfl, hb, hg, hn, hcm, hs, ht⟩
  · exact .inl ⟨none, 0, rfl, List.eq_nil_of_length_eq_zero h0⟩
  · refine .inr ⟨g, 0, cap, rfl, hn, hcm, fun j hjl => ?_⟩
    obtain ⟨u, h1, h2, h3⟩ := hj j hjl
    have key : ∀ i, i < 2 * L.length → w.cell? ⟨g, 0 + i, none⟩ = cs[i]? := fun i hi => by
      rw [cell_of_row w g _ cur _ _ hg, Nat.zero_add, ← ht, List.getElem?_take_of_lt (by omega)]
      simp
    refine ⟨u, ?_, ?_, .inl h3.bytes⟩
    · rw [key _ (by omega), h1]
    · have := key (j * 2 + 1) (by omega)
      rw [← Nat.add_assoc] at this
      rw [this, h2]
theorem IesOwn.shape {w0 w : World} {v : Value} {L : List Ie} (h : IesOwn w0 w v L) : ∃ a c, v = .slice a L.length c := h.ies.shape
theorem own_types {w : World} {b1 b2 n1 n2 m1 m2 : Nat} {t1 t2 : TypeId} {v1 v2 : Value} {c1 c2 : List Value} (h1 : w.ownsRow b1 t1 m1 v1 n1 c1) (h2 : w.ownsRow b2 t2 m2 v2 n2 c2) (ht : t1 ≠ t2) : ∀ k, v1.ownBlock = some k → v2.ownBlock ≠ some k := by
  intro k e1 e2
  obtain ⟨_, ⟨rfl, _⟩ | ⟨g1, _, _, rfl, _, hg1, _⟩⟩ := h1
  · simp [Value.ownBlock] at e1
  · obtain ⟨_, ⟨rfl, _⟩ | ⟨g2, _, _, rfl, _, hg2, _⟩⟩ := h2
    · simp [Value.ownBlock] at e2
    · simp [Value.ownBlock] at e1 e2
      subst e1 e2
      rw [hg1] at hg2
      simp only [Option.some.injEq, Obj.cells.injEq] at hg2
      exact ht hg2.2.1
theorem IesOwn.no {w0 w w' : World} {v : Value} {L : List Ie} (h : IesOwn w0 w v L) (hU : Upd No w w') : IesOwn w0 w' v L := by
  obtain ⟨cs, ho, hl, hj⟩ := h
  refine ⟨cs, ⟨ho.1, ?_⟩, hl, fun j hjl => ?_⟩
  · rcases ho.2 with hn | ⟨g, cap, cur, rfl, hb, hgg, rest⟩
    · exact .inl hn
    · exact .inr ⟨g, cap, cur, rfl, hb, hU.at hgg (fun h => h), rest⟩
  · obtain ⟨u, h1, h2, h3⟩ := hj j hjl
    exact ⟨u, h1, h2, h3.keep hU (fun _ _ h => h)⟩
theorem info_ie : (Try.prog.info? 61).map (fun i => (i.zero, i.size, i.bytes)) = some (some (.agg #[.int .u8 0, .slice none 0 0]), 2, 32) := by kernel_rfl
theorem run_app_i {w0 w : World} {v u : Value} {x : UInt8} {g : Nat} {L : List Ie} {body : List UInt8} (ty : TypeId) (h : IesOwn w0 w v L) (hu : OwnB w w0.heap.size u body) (hg : w.heap[g]? = some (.cells #[byteV x, u] 61 (0, 0))) (hl : L.length ≤ 1000) (hU : Upd No w0 w) :
    ∃ v' w', (Builtin.append_ #[43, 43] ty #[v, .slice (some ⟨g, 0, none⟩) 1 1]).run Try.prog w = .ok v' w' ∧ IesOwn w0 w' v' (L ++ [(x, body)]) ∧ Upd No w0 w' := by
  obtain ⟨i0, hi, hz0, hz1, hz2⟩ := info_parts info_ie
  obtain ⟨cs, ho, hcl, hj⟩ := h
  have hone : u.oneCell' = true := by
    obtain ⟨_, ⟨rfl, _⟩ | ⟨_, _, _, rfl, _⟩⟩ := hu <;> rfl
  have c0 := (cells_at hg).1 0
  have c1 := (cells_at hg).1 1
  have := run_append_own (P := Try.prog) w w0.heap.size 43 ty 61 i0 (.agg #[.int .u8 0, .slice none 0 0]) 2 32 Try.underlying43 hi hz0 hz1 hz2 rfl (by decide) v L.length cs ho ⟨g, 0, none⟩ 1 1 [byteV x, u] rfl
    (fun j y hy => by
      match j, hy with
      | 0, hy => cases hy; exact c0
      | 1, hy => cases hy; exact c1) (by intro y hy; simp at hy; rcases hy with rfl | rfl; rfl; exact hone) (by unfold maxLen; omega) (by omega) hU.size
  obtain ⟨v', w', hr, h1, h3, h4⟩ := this
  have hUw : Upd (fun k => v.ownBlock = some k) w w' := (Upd.refl _ w).grown h3 (fun k hk => .inr hk)
  have hge : ∀ k, v.ownBlock = some k → w0.heap.size ≤ k := fun k hk => (World.ownsRow.lt ho k hk).1
  refine ⟨v', w', hr, ⟨cs ++ [byteV x, u], by simpa using h1, by simp [hcl]; omega, fun j hjl => ?_⟩, hU.grown h3 (fun k hk => .inl (hge k hk))⟩
  by_cases e : j < L.length
  · obtain ⟨y, g1, g2, g3⟩ := hj j e
    have hat : ieAt (L ++ [(x, body)]) j = ieAt L j := by simp [ieAt, List.getElem?_append_left e]
    rw [hat]
    refine ⟨y, by rw [List.getElem?_append_left (by omega), g1], by rw [List.getElem?_append_left (by omega), g2], g3.keep hUw (fun k hk hk2 => own_types g3 ho (by decide) k hk hk2)⟩
  · have ej : j = L.length := by simp at hjl; omega
    subst ej
    have hat : ieAt (L ++ [(x, body)]) L.length = (x, body) := by simp [ieAt]
    rw [hat]
    refine ⟨u, by rw [List.getElem?_append_right (by omega), show L.length * 2 - cs.length = 0 from by omega]; rfl, by rw [List.getElem?_append_right (by omega), show L.length * 2 + 1 - cs.length = 1 from by omega]; rfl, hu.keep hUw (fun k hk hk2 => own_types hu ho (by decide) k hk hk2)⟩
theorem step_append_i {ops : Array Oper} {o : Oper} {a : Act} {w : World} {K : Act → World → Prop} {Q : Exit → Act → World → Prop} {E : Prop} (hgd : o.guard = none) (d s : Operand) (ho : o.op = .call { callee := .builtin .append, args := #[d, s], argTypes := #[43, 43] })
    (w0 : World) (v u : Value) (x : UInt8) (g : Nat) (hd : a.eval d = v) (hs : a.eval s = .slice (some ⟨g, 0, none⟩) 1 1) (L : List Ie) (body : List UInt8) (h : IesOwn w0 w v L) (hu : OwnB w w0.heap.size u body) (hg : w.heap[g]? = some (.cells #[byteV x, u] 61 (0, 0))) (hl : L.length ≤ 1000) (hU : Upd No w0 w)
    (hk : ∀ v' w', IesOwn w0 w' v' (L ++ [(x, body)]) → Upd No w0 w' → K (a.put o.dst v') w') : if Region.wanted o (yielded ops a.tmps) = true then Oper.wp Try.prog o a w K Q else E := by
  obtain ⟨v', w', hr, h1, h2⟩ := run_app_i o.type h hu hg hl hU
  exact step_run hgd (exec_append ho hd hs hr) (hk v' w' h1 h2)

/-- Cuts, up to the very end too. -/
theorem cut_rest {w : World} {b off n c i : Nat} {l : List UInt8} (h : Bytes w (.slice (some ⟨b, off, none⟩) n c) l) (hi : i ≤ n) {lo : Int} (hlo : lo = (i : Int)) :
    ∃ o', (∀ W, (Instr.slice 22 (.slice (some ⟨b, off, none⟩) n c) (some (.int .i64 lo)) none none).run Try.prog W = .ok (.slice (some ⟨b, o', none⟩) (n - i) (c - i)) W) ∧ Bytes w (.slice (some ⟨b, o', none⟩) (n - i) (c - i)) (l.drop i) := by
  subst hlo
  obtain ⟨hl, hnc, hcm, hbl, hc⟩ := h.known
  by_cases hic : i < c
  · refine ⟨off + i, sl_from i rfl hi hic rfl rfl, ?_⟩
    have := h.sub i n hi (Nat.le_refl _)
    rwa [List.take_of_length_le (by omega)] at this
  · have e1 : i = n := by omega
    have e2 : c = n := by omega
    subst e1 e2
    refine ⟨off, fun W => ?_, ?_⟩
    · rw [run_slice_l W 22 _ _ _ Try.underlying22 .i64 _ (by omega) (by omega)]
      have hs : (sizeOf (Try.prog.elem 22)).run Try.prog W = .ok 1 W := by kernel_rfl
      rw [hs]
      simp [Result.andThen, sliced]
    · rw [List.drop_of_length_le (by omega), Nat.sub_self]
      exact .inr ⟨b, off, 0, rfl, Nat.le_refl _, by omega, hbl, fun j hj => absurd hj (by simp)⟩
theorem cut_mid {w : World} {b off n c i j : Nat} {l : List UInt8} (h : Bytes w (.slice (some ⟨b, off, none⟩) n c) l) (hi : i ≤ j) (hj : j ≤ n) {lo hi2 : Int} (hlo : lo = (i : Int)) (hhi : hi2 = (j : Int)) :
    ∃ o', (∀ W, (Instr.slice 22 (.slice (some ⟨b, off, none⟩) n c) (some (.int .i64 lo)) (some (.int .i64 hi2)) none).run Try.prog W = .ok (.slice (some ⟨b, o', none⟩) (j - i) (c - i)) W) ∧ Bytes w (.slice (some ⟨b, o', none⟩) (j - i) (c - i)) ((l.take j).drop i) := by
  subst hlo hhi
  obtain ⟨hl, hnc, hcm, hbl, hc⟩ := h.known
  by_cases hic : i < c
  · exact ⟨off + i, sl_mid i j rfl rfl hi (by omega) hic rfl rfl, h.sub i j hi hj⟩
  · have e1 : i = n := by omega
    have e2 : c = n := by omega
    have e3 : j = n := by omega
    subst e1 e2 e3
    refine ⟨off, fun W => ?_, ?_⟩
    · rw [run_slice_lh W 22 _ _ _ Try.underlying22 .i64 .i64 _ _ (by omega) (by omega) (by omega)]
      have hs : (sizeOf (Try.prog.elem 22)).run Try.prog W = .ok 1 W := by kernel_rfl
      rw [hs]
      simp [Result.andThen, sliced]
    · rw [List.drop_of_length_le (by simp; omega), Nat.sub_self]
      exact .inr ⟨b, off, 0, rfl, Nat.le_refl _, by omega, hbl, fun j hj => absurd hj (by simp)⟩

def lenV : Value → Nat
  | .slice _ n _ => n
  | _ => 0
theorem ies_split (L : List Ie) (k : Nat) (hk : k < L.length) : iesBytes (L.drop k) = ieBytes (ieAt L k) ++ iesBytes (L.drop (k + 1)) := by
  have e : L.drop k = L[k] :: L.drop (k + 1) := List.drop_eq_getElem_cons hk
  rw [e, iesBytes, List.flatMap_cons]
  simp [iesBytes, ieAt, hk]
theorem fit_at {L : List Ie} (h : iesFit L = true) : L.length ≤ 16 ∧ ∀ k, k < L.length → (ieAt L k).2.length ≤ 200 := by
  simp only [iesFit, Bool.and_eq_true, decide_eq_true_eq, Bool.not_eq_true', List.any_eq_false] at h
  refine ⟨h.1, fun k hk => ?_⟩
  have := h.2 L[k] (List.getElem_mem hk)
  simp only [tooBig, decide_eq_true_eq] at this
  simp only [ieAt, List.getElem?_eq_getElem hk, Option.getD_some]
  omega
theorem ie_take (L : List Ie) (k : Nat) (hk : k < L.length) : L.take (k + 1) = L.take k ++ [ieAt L k] := by
  rw [List.take_succ_eq_append_getElem hk]
  simp [ieAt, hk]
set_option maxRecDepth 100000 in
set_option maxHeartbeats 4000000 in
theorem eunpack_calls (v : Value) (L : List Ie) (w : World) (h : Bytes w v (iesBytes L)) (hf : iesFit L = true) :
    Calls Try.prog 36 #[v] w fun e w' => ∃ v', e = .returned (.tuple #[v', .int .i64 0]) ∧ IesOwn w w' v' L ∧ Upd No w w' := by
  obtain ⟨hl16, hbody⟩ := fit_at hf
  have hlen := iesFit_len hf
  have HBD := Lib.hid hbody
  have HV := Lib.hid h
  clear hbody hf h
  go_enter Try.func36, Try.ntmps36
  go_wp2
  go_loopw [0, 4, 5, 9, 13, 17, 25, 28] (fun b out _ _ _ _ _ _ wr => ∃ k : Nat, k ≤ L.length ∧ Hid (Bytes w b (iesBytes (L.drop k))) ∧ Hid (IesOwn w wr out (L.take k)) ∧ Upd No w wr) (fun b _ _ _ _ _ _ _ _ => lenV b)
  case atStart => exact ⟨0, by omega, HV, Lib.hid (IesOwn.nil _ _), Upd.refl _ _⟩
  case round =>
    obtain ⟨k, hk, hB, hO, hU⟩ := hrel
    obtain ⟨ao, co, ho⟩ := hO.out.shape
    rw [List.length_take, Nat.min_eq_left hk] at ho
    subst ho
    by_cases hlt : k < L.length
    · have hsp := ies_split L k hlt
      obtain ⟨X, hX⟩ : ∃ X, X = ieAt L k := ⟨_, rfl⟩
      obtain ⟨x, body⟩ := X
      obtain ⟨T, hT⟩ : ∃ T, T = iesBytes (L.drop (k + 1)) := ⟨_, rfl⟩
      have hb200 : body.length ≤ 200 := by have := HBD.out k hlt; rw [← hX] at this; exact this
      rw [← hX, ← hT] at hsp
      have hlB : (iesBytes (L.drop k)).length = 4 + body.length + T.length := by rw [hsp]; simp [ieBytes, two]; omega
      have hBs := hB.out
      rw [hsp] at hBs
      rcases hBs with ⟨_, h0⟩ | ⟨b, off, cap, hv0, g1, g2, g3, g4⟩
      · simp [ieBytes] at h0
      · have hBs : Bytes w (.slice (some ⟨b, off, none⟩) (ieBytes (x, body) ++ T).length cap) (ieBytes (x, body) ++ T) := .inr ⟨b, off, cap, rfl, g1, g2, g3, g4⟩
        have hn : (ieBytes (x, body) ++ T).length = 4 + body.length + T.length := by rw [← hsp]; exact hlB
        rw [hn] at hv0 hBs g1 g4
        subst hv0
        have c0 := g4 0 (by omega)
        have c1 := g4 1 (by omega)
        simp only [ieBytes, List.cons_append, List.getElem?_cons_zero, List.getElem?_cons_succ, Option.getD_some, Nat.add_zero] at c0 c1
        have c0r := hU.cell c0 (fun h => h)
        have c1r := hU.cell c1 (fun h => h)
        obtain ⟨n, hn'⟩ : ∃ n, n = 4 + body.length + T.length := ⟨_, rfl⟩
        obtain ⟨m, hm'⟩ : ∃ m, m = body.length := ⟨_, rfl⟩
        rw [← hn'] at hBs g1 ⊢
        obtain ⟨o2, r2, B2⟩ := cut_mid (i := 2) (j := 4) hBs (by omega) (by omega) (lo := 2) (hi2 := 4) rfl rfl
        obtain ⟨o3, r3, B3⟩ := cut_mid (i := 4) (j := 4 + m) hBs (by omega) (by omega) (lo := 4) (hi2 := 4 + (m : Int)) rfl (by omega)
        obtain ⟨o4, r4, B4⟩ := cut_rest (i := 4 + m) hBs (by omega) (lo := 4 + (m : Int)) (by omega)
        have e2 : ((ieBytes (x, body) ++ T).take 4).drop 2 = [UInt8.ofNat (m / 256), UInt8.ofNat m] := by simp [ieBytes, two, hm']
        have e3 : ((ieBytes (x, body) ++ T).take (4 + m)).drop 4 = body := by rw [hm']; simp [ieBytes, two, Nat.add_comm 4 body.length]
        have e4 : (ieBytes (x, body) ++ T).drop (4 + m) = T := by rw [hm']; simp [ieBytes, two, Nat.add_comm 4 body.length]
        rw [e2] at B2
        rw [e3] at B3
        rw [e4] at B4
        rw [show 4 - 2 = 2 from rfl] at r2 B2
        have hm200 : m ≤ 200 := by omega
        have hgt := get_calls b o2 (cap - 2) _ _ wr (B2.no hU)
        rw [show (UInt8.ofNat (m / 256)).toNat * 256 + (UInt8.ofNat m).toNat = m from by simp; omega] at hgt
        have q16 : ((k : Int) == 16) = false := by rw [beq_eq_false_iff_ne]; omega
        have q0 : decide (0 < (n : Int)) = true := by rw [decide_eq_true_eq]; omega
        have q4 : decide ((n : Int) < 4) = false := by rw [decide_eq_false_iff_not]; omega
        have qm : decide (200 < (m : Int)) = false := by rw [decide_eq_false_iff_not]; omega
        have qn : decide ((n : Int) < 4 + (m : Int)) = false := by rw [decide_eq_false_iff_not]; omega
        have hnb : n ≤ 100000 := by
          have hle : (iesBytes (L.drop k)).length ≤ (iesBytes L).length := by
            have e : iesBytes L = iesBytes (L.take k) ++ iesBytes (L.drop k) := by rw [iesBytes, iesBytes, iesBytes, ← List.flatMap_append, List.take_append_drop]
            rw [e, List.length_append]
            omega
          omega
        have hn4 : 4 + m ≤ n := by omega
        have h34 : 4 + m - 4 = m := by omega
        rw [h34] at r3 B3
        have HB3 := Lib.hid B3
        have HB4 := Lib.hid B4
        have HGT := Lib.hid hgt
        have HX := Lib.hid hX
        have HT := Lib.hid hT
        have HM := Lib.hid hm'
        have hncap : n ≤ cap := g1
        unfold maxLen at g2
        have C0 := Lib.hid c0
        have hsz := hU.size
        have hbw : b < w.heap.size := g3
        clear hlB hn hsp hBs g1 g3 g4 c0 c1 B2 B3 B4 e2 e3 e4 hgt hX hT hm' hn' h34 hB
        go_wp2_with fail
        refine HGT.out.mono ?_
        rintro e w2 ⟨rfl, hw2⟩
        subst hw2
        go_wp2
        have hmeas : n - (4 + m) < n := Nat.sub_lt (by omega) (by omega)
        have hk1 : k + 1 ≤ L.length := hlt
        have hw1 : IntKind.i64.wrap (4 + (m : Int)) = 4 + (m : Int) := IntWalk.i64_in _ ⟨by omega, by omega⟩
        have hw2 : wrap64 (4 + (m : Int)) = 4 + (m : Int) := IntWalk.wrap64_in _ ⟨by omega, by omega⟩
        go_region_held_law (fun w' => w'.cell? ⟨b, off, none⟩ = some (.int .u8 (x.toNat : Int)))
          (first | exact (hU.drew).cell C0.out (fun h => h) | exact hU5.cell C0.out (fun h => h) | exact (hU3.alloc _).cell C0.out (fun h => h) | exact hU3.cell C0.out (fun h => h))
          (first
            | (refine step_append_i rfl (.tmp 34) (.tmp 44) rfl w (.slice ao k co) (.slice au body.length cu) x w3.heap.size rfl rfl (L.take k) body (hO.out.no ((((Upd.refl No w2).drew).trans hUc).alloc _)) (hou'.keep (S := No) ((Upd.refl _ _).alloc _) (fun _ _ h => h)) (block_new w3 _) (by simp; omega) (hU3.alloc _) ?_; intro v5 w5 hi5 hU5)
            | (go_simp; go_at_call 34; refine (clone_calls ⟨b, o3, none⟩ m (cap - 4) body w2.drew (HB3.out.no (hU.drew)) (by omega)).mono ?_; rintro e w3 ⟨u, rfl, hnu, hou, hUc⟩; have hU3 := (hU.drew).trans hUc; have hou' := hou.mono (base' := w.heap.size) hsz; obtain ⟨au, cu, hus, _⟩ := hou.bytes.shape; subst hus; clear hou))
        have HI5 := Lib.hid (show IesOwn w w5 v5 (L.take (k + 1)) from by rw [ie_take L k hlt, ← HX.out]; exact hi5)
        have HB5 := Lib.hid (show Bytes w (.slice (some ⟨b, o4, none⟩) (n - (4 + m)) (cap - (4 + m))) (iesBytes (L.drop (k + 1))) from by rw [← HT.out]; exact HB4.out)
        clear hi5 hou' hO
        go_wp2
        go_roundw
        case rel => exact ⟨k + 1, hk1, HB5, HI5, hU5⟩
        case measure => first | exact hmeas | (simp only [lenV]; exact hmeas)
    · obtain rfl : k = L.length := by omega
      have hB0 := hB.out
      rw [List.drop_length] at hB0
      obtain ⟨ab, cb, hv, _⟩ := hB0.shape
      have hO2 := hO.out
      rw [List.take_length] at hO2
      have HO2 := Lib.hid hO2
      rw [show (iesBytes ([] : List Ie)).length = 0 from rfl] at hv
      subst hv
      clear hO2 hB0 hO
      go_wp2
      go_ret2
      exact ⟨_, rfl, HO2.out, hU⟩
end Go.Proofs.Ytddohdfccagbbaa
