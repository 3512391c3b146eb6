/- element: elements as bytes. -/
import Derived.Test.YtddohdfccagbbaaRows
import Derived.Test.YtddohdfccagbbaaBase
import Derived.Test.YtddohdfccagbbaaBytes
import Derived.Test.YtddohdfccagbbaaCells
import Derived.Deep.RegionHeldLaw
namespace Go.Proofs.Ytddohdfccagbbaa
open Go.RowKit Go.Shelf
attribute [local go_sem] Oper.semAt_some

/-- A slice that holds bytes; or one of no length, wherever it leads. -/
def BytesE (w : World) (v : Value) (l : List UInt8) : Prop := Bytes w v l ∨ ∃ x cap, v = .slice (some x) 0 cap ∧ l = []
theorem BytesE.shape {w : World} {v : Value} {l : List UInt8} (h : BytesE w v l) : ∃ a c, v = .slice a l.length c := by
  rcases h with h | ⟨x, cap, rfl, rfl⟩
  · obtain ⟨a, c, h, _⟩ := h.shape
    exact ⟨a, c, h⟩
  · exact ⟨_, _, rfl⟩
theorem BytesE.no {w w' : World} {v : Value} {l : List UInt8} (h : BytesE w v l) (hU : Upd No w w') : BytesE w' v l := by
  rcases h with h | h
  · exact .inl (h.no hU)
  · exact .inr h
theorem run_app_e {w : World} {base : Nat} {v v2 : Value} {l l2 : List UInt8} (ty : TypeId) (h : OwnB w base v l) (h2 : BytesE w v2 l2) (hl : l.length + l2.length ≤ 1000000000000) (hb : base ≤ w.heap.size) :
    ∃ v' w', (Builtin.append_ #[22, 22] ty #[v, v2]).run Try.prog w = .ok v' w' ∧ OwnB w' base v' (l ++ l2) ∧ w.grownBy w' v.ownBlock ∧ (v' = .slice none 0 0 ↔ v = .slice none 0 0 ∧ l2.length = 0) := by
  rcases h2 with h2 | ⟨x, cap, rfl, rfl⟩
  · exact run_app ty h h2 hl hb
  · obtain ⟨i0, hi, hz0, hz1, hz2⟩ := info_parts info_u8
    have := run_append_own (P := Try.prog) w base 22 ty 5 i0 (.int .u8 0) 1 1 Try.underlying22 hi hz0 hz1 hz2 rfl (by decide) v l.length _ h x 0 cap [] (by simp) (by simp) (by simp)
      (by unfold maxLen; omega) (by omega) hb
    obtain ⟨v', w', hr, h1, h3, h4⟩ := this
    exact ⟨v', w', hr, by unfold OwnB; simpa using h1, h3, h4⟩

/-- An element: its kind, its bytes. -/
abbrev Ie := UInt8 × List UInt8
def ieAt (L : List Ie) (j : Nat) : Ie := L[j]?.getD (0, [])
/-- The slice value v holds the elements L. -/
def Ies (w : World) (v : Value) (L : List Ie) : Prop :=
  (∃ a cap, v = .slice a 0 cap ∧ L = []) ∨ ∃ b off cap, v = .slice (some ⟨b, off, none⟩) L.length cap ∧ L.length ≤ cap ∧ cap ≤ maxLen ∧
    ∀ j, j < L.length → ∃ u, w.cell? ⟨b, off + j * 2, none⟩ = some (byteV (ieAt L j).1) ∧ w.cell? ⟨b, off + j * 2 + 1, none⟩ = some u ∧ BytesE w u (ieAt L j).2
theorem Ies.no {w w' : World} {v : Value} {L : List Ie} (h : Ies w v L) (hU : Upd No w w') : Ies w' v L := by
  rcases h with h | ⟨b, off, cap, h1, h2, h3, h4⟩
  · exact .inl h
  · refine .inr ⟨b, off, cap, h1, h2, h3, fun j hj => ?_⟩
    obtain ⟨u, g1, g2, g3⟩ := h4 j hj
    exact ⟨u, hU.cell g1 (fun h => h), hU.cell g2 (fun h => h), g3.no hU⟩
theorem Ies.shape {w : World} {v : Value} {L : List Ie} (h : Ies w v L) : ∃ a c, v = .slice a L.length c := by
  rcases h with ⟨a, c, rfl, rfl⟩ | ⟨b, off, cap, h, _⟩
  · exact ⟨a, c, rfl⟩
  · exact ⟨_, _, h⟩
theorem run_load61 {w : World} {b off : Nat} {v1 v2 : Value} (h1 : w.cell? ⟨b, off, none⟩ = some v1) (h2 : w.cell? ⟨b, off + 1, none⟩ = some v2) :
    (loadVar 61 ⟨b, off, none⟩).run Try.prog w = .ok (.agg #[v1, v2]) w := by
  refine run_loadVar_mid [v1, v2] (fun j v hv => ?_) Try.underlying61 rfl (by kernel_rfl)
  match j, hv with
  | 0, hv => cases hv; exact h1
  | 1, hv => cases hv; exact h2

def fixI (p : Ie → Bool) (L : List Ie) : Int := match L.findIdx? p with | some i => (i : Int) | none => -1
theorem fixI_at {p : Ie → Bool} {L : List Ie} {k : Nat} (hk : k < L.length) (h0 : ∀ j, j < k → p (ieAt L j) = false) (h : p (ieAt L k) = true) : fixI p L = k := by
  have : L.findIdx? p = some k := by
    rw [List.findIdx?_eq_some_iff_getElem]
    refine ⟨hk, by simpa [ieAt, hk] using h, fun j hj => ?_⟩
    have := h0 j hj
    have hj2 : j < L.length := by omega
    simpa [ieAt, hj2] using this
  rw [fixI, this]
theorem fixI_none {p : Ie → Bool} {L : List Ie} (h0 : ∀ j, j < L.length → p (ieAt L j) = false) : fixI p L = -1 := by
  have : L.findIdx? p = none := by
    rw [List.findIdx?_eq_none_iff]
    intro x hx
    obtain ⟨j, hj, rfl⟩ := List.getElem_of_mem hx
    have := h0 j hj
    simpa [ieAt, hj] using this
  rw [fixI, this]
theorem fixI_any (p : Ie → Bool) (L : List Ie) : decide (0 ≤ fixI p L) = L.any p := by
  have : L.any p = (L.findIdx? p).isSome := by simp
  rw [this, fixI]
  cases L.findIdx? p <;> simp

def tooBig (x : Ie) : Bool := decide (200 < (x.2.length : Int))
theorem big_calls (x : UInt8) (a : Option Addr) (n c : Nat) (w : World) :
    Calls Try.prog 42 #[.agg #[byteV x, .slice a n c]] w fun e w' => e = .returned (.bool (decide (200 < (n : Int)))) ∧ Upd No w w' := by
  go_enter Try.func42, Try.ntmps42
  go_wp2
  go_ret
  exact ⟨rfl, (Upd.refl _ _).alloc _⟩
set_option maxRecDepth 100000 in
set_option maxHeartbeats 1000000 in
theorem indexI_calls (v : Value) (L : List Ie) (w : World) (h : Ies w v L) (hl : L.length ≤ 100000000000) :
    Calls Try.prog 47 #[v, .func (.func 42) #[] #[]] w fun e w' => e = .returned (.int .i64 (fixI tooBig L)) ∧ Upd No w w' := by
  rcases h with ⟨a, c, rfl, rfl⟩ | ⟨b, off, cap, rfl, h1, h2, h4⟩
  · go_enter Try.func47, Try.ntmps47
    go_wp2
    go_loop [5, 8] (fun _ i => i = .int .i64 0) (fun _ _ => 0)
    case atStart => rfl
    case round =>
      subst hrel
      go_wp2
      go_ret
      exact ⟨rfl, Upd.refl _ _⟩
  · unfold maxLen at h2
    go_enter Try.func47, Try.ntmps47
    go_wp2
    go_loopw [5, 8] (fun _ i wr => ∃ k : Nat, k ≤ L.length ∧ i = .int .i64 k ∧ Hid (∀ j, j < k → tooBig (ieAt L j) = false) ∧ Upd No w wr) (fun _ i _ => L.length - (intOf i).toNat)
    case atStart => exact ⟨0, by omega, rfl, fun j hj => absurd hj (by omega), Upd.refl _ _⟩
    case round =>
      obtain ⟨k, hk, rfl, hz, hU⟩ := hrel
      by_cases hlt : k < L.length
      · obtain ⟨u, g1, g2, g3⟩ := h4 k hlt
        obtain ⟨a, c, hu⟩ := g3.shape
        subst hu
        have hld := run_load61 (hU.cell g1 (fun h => h)) (hU.cell g2 (fun h => h))
        have HLD := Lib.hid hld
        have H4 := Lib.hid h4
        clear h4 g1 g2 g3 hld
        go_wp2_with (with_reducible refine stop_dst 15 ?_)
        refine on (wpList_run rfl (exec_load rfl rfl HLD.out) ?_)
        go_wp2_with fail
        refine (big_calls _ _ _ _ _).mono ?_
        rintro e w1 ⟨rfl, hU1⟩
        have hU2 := hU.trans hU1
        obtain ⟨t, ht⟩ : ∃ t, t = tooBig (ieAt L k) := ⟨_, rfl⟩
        rw [show decide (200 < ((ieAt L k).2.length : Int)) = t from by rw [ht]; rfl]
        have HT := Lib.hid ht
        clear ht hU1
        cases t
        · go_wp2
          go_roundw
          case rel =>
            refine ⟨k + 1, by omega, by go_num, fun j hj => ?_, hU2⟩
            by_cases e : j = k
            · rw [e, ← HT.out]
            · exact hz.out j (by omega)
          case measure => simp [intOf]; omega
        · have hf : fixI tooBig L = k := fixI_at hlt hz.out HT.out.symm
          have HF := Lib.hid hf
          clear hf
          go_wp2
          go_ret
          exact ⟨by rw [HF.out]; rfl, hU2⟩
      · obtain rfl : k = L.length := by omega
        have hf : fixI tooBig L = -1 := fixI_none hz.out
        have HF := Lib.hid hf
        clear hf h4
        go_wp2
        go_ret
        exact ⟨by rw [HF.out]; rfl, hU⟩
theorem containsI_calls (v : Value) (L : List Ie) (w : World) (h : Ies w v L) (hl : L.length ≤ 100000000000) :
    Calls Try.prog 41 #[v, .func (.func 42) #[] #[]] w fun e w' => e = .returned (.bool (L.any tooBig)) ∧ Upd No w w' := by
  have hi := indexI_calls v L w h hl
  rw [← fixI_any]
  have HI := Lib.hid hi
  clear hi
  go_enter Try.func41, Try.ntmps41
  go_wp2_with fail
  refine HI.out.mono ?_
  rintro e w1 ⟨rfl, hU⟩
  go_wp2
  go_ret
  exact ⟨rfl, hU⟩

/-- Blocks of no bytes are as they were. -/
def KeepsT (w w' : World) : Prop := ∀ (k : Nat) (cs : Array Value) (t : TypeId) (m : Nat × Nat), t ≠ 5 → w.heap[k]? = some (.cells cs t m) → w'.heap[k]? = some (.cells cs t m)
theorem KeepsT.refl (w : World) : KeepsT w w := fun _ _ _ _ _ h => h
theorem KeepsT.trans {a b c : World} (h : KeepsT a b) (k : KeepsT b c) : KeepsT a c := fun i cs t m ht hi => k i cs t m ht (h i cs t m ht hi)
theorem KeepsT.alloc {a b : World} (h : KeepsT a b) (o : Obj) : KeepsT a (b.alloc o) := fun i cs t m ht hi => block_old (h i cs t m ht hi) _
theorem KeepsT.grown {w w' : World} {base : Nat} {v : Value} {l : List UInt8} (ho : OwnB w base v l) (hg : w.grownBy w' v.ownBlock) : KeepsT w w' := by
  intro k cs t m ht hk
  refine (hg.block k (heap_lt hk) (fun e => ?_)).trans hk
  obtain ⟨_, ⟨rfl, _⟩ | ⟨g, cap, cur, rfl, _, hgg, _⟩⟩ := ho
  · simp [Value.ownBlock] at e
  · simp [Value.ownBlock] at e
    subst e
    rw [hgg] at hk
    simp only [Option.some.injEq, Obj.cells.injEq] at hk
    exact ht hk.2.1.symm
theorem wpList_append_e {ops : Array Oper} {rest : List Oper} {o : Oper} {a : Act} {w : World} {Q : Exit → Act → World → Prop} (hgd : o.guard = none) (d s : Operand) (ho : o.op = .call { callee := .builtin .append, args := #[d, s], argTypes := #[22, 22] })
    (w0 : World) (v v2 : Value) (hd : a.eval d = v) (hs : a.eval s = v2) (l l2 : List UInt8) (hown : OwnB w w0.heap.size v l) (hb : BytesE w v2 l2) (hl : l.length + l2.length ≤ 1000000000000) (hU : Upd No w0 w)
    (h : ∀ v' w', OwnB w' w0.heap.size v' (l ++ l2) → Upd No w0 w' → KeepsT w w' → (v' = .slice none 0 0 ↔ v = .slice none 0 0 ∧ l2.length = 0) → wpList Try.prog ops Q rest (a.put o.dst v') w') : wpList Try.prog ops Q (o :: rest) a w := by
  obtain ⟨v', w', hr, h1, h2, h3⟩ := run_app_e o.type hown hb hl hU.size
  exact wpList_run hgd (exec_append ho hd hs hr) (h v' w' h1 (hU.grown h2 (fun i hi => .inl (hown.ge i hi).1)) (KeepsT.grown hown h2) h3)
theorem step_append_e {ops : Array Oper} {o : Oper} {a : Act} {w : World} {K : Act → World → Prop} {Q : Exit → Act → World → Prop} {E : Prop} (hgd : o.guard = none) (d s : Operand) (ho : o.op = .call { callee := .builtin .append, args := #[d, s], argTypes := #[22, 22] })
    (w0 : World) (v v2 : Value) (hd : a.eval d = v) (hs : a.eval s = v2) (l l2 : List UInt8) (hown : OwnB w w0.heap.size v l) (hb : BytesE w v2 l2) (hl : l.length + l2.length ≤ 1000000000000) (hU : Upd No w0 w)
    (h : ∀ v' w', OwnB w' w0.heap.size v' (l ++ l2) → Upd No w0 w' → KeepsT w w' → (v' = .slice none 0 0 ↔ v = .slice none 0 0 ∧ l2.length = 0) → K (a.put o.dst v') w') : if Region.wanted o (yielded ops a.tmps) = true then Oper.wp Try.prog o a w K Q else E := by
  obtain ⟨v', w', hr, h1, h2, h3⟩ := run_app_e o.type hown hb hl hU.size
  exact step_run hgd (exec_append ho hd hs hr) (h v' w' h1 (hU.grown h2 (fun i hi => .inl (hown.ge i hi).1)) (KeepsT.grown hown h2) h3)
theorem box_cells {W : World} {B : Nat} {v1 v2 : Value} {t : TypeId} (h : W.heap[B]? = some (.cells #[v1, v2] t (0, 0))) : W.cell? ⟨B, 0, none⟩ = some v1 ∧ W.cell? ⟨B, 1, none⟩ = some v2 := ⟨(cells_at h).1 0, (cells_at h).1 1⟩

/-! ### element.put: a number as two bytes -/
def two (n : Nat) : List UInt8 := [UInt8.ofNat (n / 256), UInt8.ofNat n]
set_option maxRecDepth 100000 in
set_option maxHeartbeats 1000000 in
theorem put_calls (w0 : World) (v : Value) (l : List UInt8) (n : Nat) (w : World) (ho : OwnB w w0.heap.size v l) (hU : Upd No w0 w) (hl : l.length ≤ 100000000000) (hn : n ≤ 60000) :
    Calls Try.prog 43 #[v, .int .i64 (n : Int), .int .i64 2] w fun e w' => ∃ v', e = .returned v' ∧ v' ≠ .slice none 0 0 ∧ OwnB w' w0.heap.size v' (l ++ two n) ∧ Upd No w0 w' ∧ KeepsT w w' := by
  have HO := Lib.hid ho
  have hsz := hU.size
  clear ho
  go_enter Try.func43, Try.ntmps43
  go_wp2
  go_loopw [0, 7] (fun v' i wr => Hid (Upd No w0 wr ∧ KeepsT w wr) ∧ ((i = .int .i64 1 ∧ Hid (OwnB wr w0.heap.size v' l)) ∨ (i = .int .i64 0 ∧ v' ≠ .slice none 0 0 ∧ Hid (OwnB wr w0.heap.size v' (l ++ [UInt8.ofNat (n / 256)]))) ∨ (i = .int .i64 (-1) ∧ v' ≠ .slice none 0 0 ∧ Hid (OwnB wr w0.heap.size v' (l ++ two n))))) (fun _ i _ => (intOf i + 1).toNat)
  case atStart => exact ⟨Lib.hid ⟨hU, KeepsT.refl _⟩, .inl ⟨by go_num, HO⟩⟩
  case round =>
    obtain ⟨hUr, ⟨rfl, HR⟩ | ⟨rfl, hnn, HR⟩ | ⟨rfl, hnn, HR⟩⟩ := hrel
    · have hsr := hUr.out.1.size
      go_wp2_with (with_reducible refine stop_builtin .append ?_)
      have hb1 : (wr.alloc (.cells #[.int .u8 ((n : Int) / 256)] 5)).heap[wr.heap.size]? = some (.cells (rowOf [UInt8.ofNat (n / 256)]) 5 (0, 0)) := by
        rw [block_new]
        simp [rowOf, byteV]
        try omega
      refine on (wpList_append_u8 rfl (.tmp 14) (.tmp 20) rfl w0.heap.size u0 (.slice (some ⟨wr.heap.size, 0, none⟩) 1 1) rfl rfl l [UInt8.ofNat (n / 256)] (HR.out.keep (S := No) ((Upd.refl _ _).alloc _) (fun _ _ h => h)) (Bytes.lit hb1 (by simp [maxLen])) (by simp; omega) (by simp; omega) ?_)
      intro v3 w3 ho3 hg3 hn3
      have hU3 := Lib.hid (And.intro ((hUr.out.1.alloc (.cells #[.int .u8 ((n : Int) / 256)] 5)).grown hg3 (fun i hi => .inl (HR.out.ge i hi).1)) ((hUr.out.2.alloc _).trans (KeepsT.grown (HR.out.keep (S := No) ((Upd.refl _ _).alloc _) (fun _ _ h => h)) hg3)))
      have hnn3 : v3 ≠ .slice none 0 0 := fun h => by simp at hn3; exact hn3 h
      have HO3 := Lib.hid ho3
      clear hb1 ho3 hg3 hn3
      go_wp2
      go_roundw
      case rel => exact ⟨hU3, .inr (.inl ⟨by go_num, hnn3, HO3⟩)⟩
      case measure => simp [intOf]
    · have hsr := hUr.out.1.size
      go_wp2_with (with_reducible refine stop_builtin .append ?_)
      have hb1 : (wr.alloc (.cells #[.int .u8 ((n : Int) % 256)] 5)).heap[wr.heap.size]? = some (.cells (rowOf [UInt8.ofNat n]) 5 (0, 0)) := by
        rw [block_new]
        simp [rowOf, byteV]
        try omega
      refine on (wpList_append_u8 rfl (.tmp 14) (.tmp 20) rfl w0.heap.size u0 (.slice (some ⟨wr.heap.size, 0, none⟩) 1 1) rfl rfl (l ++ [UInt8.ofNat (n / 256)]) [UInt8.ofNat n] (HR.out.keep (S := No) ((Upd.refl _ _).alloc _) (fun _ _ h => h)) (Bytes.lit hb1 (by simp [maxLen])) (by simp; omega) (by simp; omega) ?_)
      intro v3 w3 ho3 hg3 hn3
      have hU3 := Lib.hid (And.intro ((hUr.out.1.alloc (.cells #[.int .u8 ((n : Int) % 256)] 5)).grown hg3 (fun i hi => .inl (HR.out.ge i hi).1)) ((hUr.out.2.alloc _).trans (KeepsT.grown (HR.out.keep (S := No) ((Upd.refl _ _).alloc _) (fun _ _ h => h)) hg3)))
      have hnn3 : v3 ≠ .slice none 0 0 := fun h => by simp at hn3; exact hn3 h
      have HO3 := Lib.hid ho3
      clear hb1 ho3 hg3 hn3
      go_wp2
      go_roundw
      case rel => exact ⟨hU3, .inr (.inr ⟨by go_num, hnn3, Lib.hid (by rw [two]; have := HO3.out; simpa using this)⟩)⟩
      case measure => simp [intOf]
    · go_wp2
      go_ret
      exact ⟨_, rfl, hnn, HR.out, hUr.out⟩

/-! ### element.Pack -/
def ieBytes (x : Ie) : List UInt8 := [x.1, 128] ++ two x.2.length ++ x.2
def iesBytes (L : List Ie) : List UInt8 := L.flatMap ieBytes
def iesFit (L : List Ie) : Bool := decide (L.length ≤ 16) && !L.any tooBig
theorem ieAt_take (L : List Ie) (k : Nat) (hk : k < L.length) : iesBytes (L.take (k + 1)) = iesBytes (L.take k) ++ ieBytes (ieAt L k) := by
  rw [iesBytes, List.take_succ_eq_append_getElem hk, List.flatMap_append]
  simp [iesBytes, ieAt, hk]
theorem iesBytes_len (L : List Ie) (h : ∀ x ∈ L, x.2.length ≤ 300) : (iesBytes L).length ≤ 304 * L.length := by
  induction L with
  | nil => simp [iesBytes]
  | cons x L ih =>
    have h1 := h x (by simp)
    have h2 := ih (fun y hy => h y (by simp [hy]))
    simp only [iesBytes, List.flatMap_cons, List.length_append, List.length_cons, ieBytes, two, List.length_nil] at h2 ⊢
    omega
set_option maxRecDepth 100000 in
set_option maxHeartbeats 4000000 in
theorem epack_calls (v : Value) (L : List Ie) (w : World) (h : Ies w v L) (hl : L.length ≤ 20) (hb : ∀ x ∈ L, x.2.length ≤ 300) :
    Calls Try.prog 30 #[v] w fun e w' => ∃ v', e = .returned (.tuple #[v', .int .i64 (if iesFit L then 0 else 6)]) ∧ OwnB w' w.heap.size v' (if iesFit L then iesBytes L else []) ∧ Upd No w w' := by
  obtain ⟨a, c, hv⟩ := h.shape
  by_cases h16 : 16 < L.length
  · have hf : iesFit L = false := by simp [iesFit]; omega
    have q : decide (16 < (L.length : Int)) = true := by simpa using (by omega)
    rw [hf]
    clear hf h hb
    subst hv
    go_enter Try.func30, Try.ntmps30
    go_wp2
    go_ret2
    exact ⟨_, rfl, OwnB.nil _ _, Upd.refl _ _⟩
  · have q : decide (16 < (L.length : Int)) = false := by simpa using (by omega)
    have hci := containsI_calls v L w h (by omega)
    obtain ⟨t, ht⟩ : ∃ t, t = L.any tooBig := ⟨_, rfl⟩
    have hft : iesFit L = !t := by rw [ht, iesFit]; simp; omega
    rw [← ht] at hci
    rw [hft]
    have HCI := Lib.hid hci
    have HH := Lib.hid h
    have HB := Lib.hid hb
    clear hci ht hft h hb
    subst hv
    go_enter Try.func30, Try.ntmps30
    go_wp2_with fail
    refine HCI.out.mono ?_
    rintro e w1 ⟨rfl, hU1⟩
    cases t
    · go_wp2
      go_loopw [4, 6, 16] (fun out _ i wr => ∃ k : Nat, k ≤ L.length ∧ i = .int .i64 k ∧ Hid (OwnB wr w.heap.size out (iesBytes (L.take k))) ∧ Upd No w wr) (fun _ _ i _ => L.length - (intOf i).toNat)
      case atStart => exact ⟨0, by omega, rfl, Lib.hid (OwnB.nil _ _), hU1⟩
      case round =>
        obtain ⟨k, hk, rfl, hO, hU⟩ := hrel
        by_cases hlt : k < L.length
        · rcases HH.out with ⟨_, _, _, h0⟩ | ⟨b, off, cap, he, g1, g2, g3⟩
          · rw [h0] at hlt; simp at hlt
          · cases he
            obtain ⟨u, c1, c2, c3⟩ := g3 k hlt
            obtain ⟨au, cu, hu⟩ := c3.shape
            subst hu
            have hld := run_load61 (hU.cell c1 (fun h => h)) (hU.cell c2 (fun h => h))
            have HLD := Lib.hid hld
            have C3 := Lib.hid c3
            unfold maxLen at g2
            clear g3 c1 c2 c3 hld
            go_wp2_with (with_reducible refine stop_dst 19 ?_)
            refine on (wpList_run rfl (exec_load rfl rfl HLD.out) ?_)
            have hbx := block_new wr (.cells #[byteV (ieAt L k).1, .slice au (ieAt L k).2.length cu] 61)
            have hblen : (ieAt L k).2.length ≤ 300 := HB.out _ (by simp [ieAt, hlt])
            have hpl : (iesBytes (L.take k)).length ≤ 304 * 20 := by
              have := iesBytes_len (L.take k) (fun x hx => HB.out x (List.mem_of_mem_take hx))
              rw [List.length_take] at this
              omega
            have HBX := Lib.hid hbx
            clear hbx
            go_wp2
            obtain ⟨W, hW⟩ : ∃ W, W = wr.alloc (.cells #[byteV (ieAt L k).1, .slice au (ieAt L k).2.length cu] 61) := ⟨_, rfl⟩
            have hbx : W.heap[wr.heap.size]? = some (.cells #[byteV (ieAt L k).1, .slice au (ieAt L k).2.length cu] 61 (0, 0)) := by rw [hW]; exact HBX.out
            have hUW : Upd No w W := by rw [hW]; exact hU.alloc _
            have hOW : OwnB W w.heap.size u4 (iesBytes (L.take k)) := by rw [hW]; exact hO.out.keep (S := No) ((Upd.refl _ _).alloc _) (fun _ _ h => h)
            have hsz : w.heap.size ≤ wr.heap.size := hU.size
            rw [show wr.alloc (.cells #[Value.int .u8 (((ieAt L k).1.toNat : Nat) : Int), .slice au (ieAt L k).2.length cu] 61) = W from hW.symm]
            have hne : (61 : TypeId) ≠ 5 := by decide
            clear hW HBX HLD
            generalize wr.heap.size = B at hbx hsz ⊢
            generalize hX : (ieAt L k) = X at hbx hblen C3 ⊢
            obtain ⟨x, l⟩ := X
            have HX := Lib.hid hX
            clear hX
            simp only at hbx hblen C3 ⊢
            obtain ⟨T, hT⟩ : ∃ T, T = iesBytes (L.take k) := ⟨_, rfl⟩
            rw [← hT] at hOW hpl
            have HT := Lib.hid hT
            have hB2 : ∀ W' : World, BytesE (W'.alloc (.cells #[byteV x, .int .u8 128] 5)) (.slice (some ⟨W'.heap.size, 0, none⟩) 2 2) [x, 128] := fun W' => .inl (Bytes.lit (l := [x, 128]) (block_new W' _) (by simp [maxLen]))
            clear hT hO hU
            go_region_held_law (fun w' => w'.cell? ⟨B, 0, none⟩ = some (byteV x) ∧ w'.cell? ⟨B, 1, none⟩ = some (.slice au l.length cu))
              (first | exact box_cells hbx | exact box_cells (block_old hbx _) | exact box_cells (by assumption))
              (first
                | (refine step_append_e rfl (.tmp 20) (.tmp 23) rfl w u4 _ rfl rfl T [x, 128] (hOW.keep (S := No) (((Upd.refl No W).drew).alloc _) (fun _ _ h => h)) (hB2 _) (by simp; omega) ((hUW.drew).alloc _) ?_; intro v3 w3 ho3 hU3 hK3 hn3; have hbx3 := hK3 _ _ _ _ hne (block_old hbx _); clear hn3)
                | (refine step_append_e rfl (.tmp 28) (.tmp 30) rfl w v4 _ rfl rfl (T ++ [x, 128] ++ two l.length) l ho4 (C3.out.no hU4) (by simp [two]; omega) hU4 ?_; intro v5 w5 ho5 hU5 hK5 hn5; have hbx5 := hK5 _ _ _ _ hne hbx4)
                | (go_simp; go_at_call 43; refine (put_calls w v3 (T ++ [x, 128]) l.length w3 ho3 hU3 (by simp; omega) (by omega)).mono ?_; rintro e w4 ⟨v4, rfl, hn4, ho4, hU4, hK4⟩; have hbx4 := hK4 _ _ _ _ hne hbx3))
            have HO5 := Lib.hid (show OwnB w5 w.heap.size v5 (iesBytes (L.take (k + 1))) from by
              rw [ieAt_take L k hlt, ← HT.out, HX.out]
              have := ho5
              simpa [ieBytes, List.append_assoc] using this)
            clear ho5 ho4 ho3 hn5 hn4 hbx3 hbx4 hbx5 hK3 hK4 hK5 hbx hB2 hOW
            go_wp2
            go_roundw
            case rel => exact ⟨k + 1, by omega, by go_num, HO5, hU5⟩
            case measure => simp [intOf]; omega
        · obtain rfl : k = L.length := by omega
          go_wp2
          go_ret2
          exact ⟨_, rfl, by have := hO.out; rw [List.take_length] at this; exact this, hU⟩
    · go_wp2
      go_ret2
      exact ⟨_, rfl, OwnB.nil _ _, hU1⟩
end Go.Proofs.Ytddohdfccagbbaa
