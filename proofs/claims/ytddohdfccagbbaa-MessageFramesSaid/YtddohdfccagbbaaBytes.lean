/- Slices of bytes: what they hold ('Bytes'), rows of one's own ('OwnB'), and the operations on them. -/
import Derived.Test.YtddohdfccagbbaaRows
import Derived.Test.YtddohdfccagbbaaBase
import Derived.Laws.CopyOwn
import Derived.Laws.BytesString
namespace Go.Proofs.Ytddohdfccagbbaa
open Go.RowKit Go.Shelf

abbrev byteV (x : UInt8) : Value := .int .u8 (x.toNat : Int)
/-- A row's cells (a definition of its own, so that the walk leaves it standing). -/
def rowOf (l : List UInt8) : Array Value := (l.map byteV).toArray
/-- The slice value v holds the bytes l. -/
def Bytes (w : World) (v : Value) (l : List UInt8) : Prop :=
  (v = .slice none 0 0 ∧ l = []) ∨ ∃ b off cap, v = .slice (some ⟨b, off, none⟩) l.length cap ∧ l.length ≤ cap ∧ cap ≤ maxLen ∧ b < w.heap.size ∧
    ∀ j, j < l.length → w.cell? ⟨b, off + j, none⟩ = some (.int .u8 ((l[j]?.getD 0).toNat : Int))
theorem Bytes.upd {S : Nat → Prop} {w w' : World} {v : Value} {l : List UInt8} (h : Bytes w v l) (hU : Upd S w w') (hs : ∀ k, v.ownBlock = some k → ¬ S k) : Bytes w' v l := by
  rcases h with h | ⟨b, off, cap, rfl, h1, h2, h3, h4⟩
  · exact .inl h
  · exact .inr ⟨b, off, cap, rfl, h1, h2, Nat.lt_of_lt_of_le h3 hU.size, fun j hj => hU.cell (h4 j hj) (hs b rfl)⟩
theorem Bytes.no {w w' : World} {v : Value} {l : List UInt8} (h : Bytes w v l) (hU : Upd No w w') : Bytes w' v l := h.upd hU (fun _ _ h => h)
theorem Bytes.shape {w : World} {v : Value} {l : List UInt8} (h : Bytes w v l) : ∃ a c, v = .slice a l.length c ∧ l.length ≤ c ∧ c ≤ maxLen ∧ (∀ k, v.ownBlock = some k → k < w.heap.size) ∧ (a = none → l = [] ∧ c = 0) := by
  rcases h with ⟨rfl, rfl⟩ | ⟨b, off, cap, rfl, h1, h2, h3, h4⟩
  · exact ⟨none, 0, rfl, Nat.le_refl _, by unfold maxLen; omega, fun k hk => by simp [Value.ownBlock] at hk, fun _ => ⟨rfl, rfl⟩⟩
  · exact ⟨_, cap, rfl, h1, h2, fun k hk => by simp [Value.ownBlock] at hk; omega, fun h => by cases h⟩
theorem Bytes.lt {w : World} {v : Value} {l : List UInt8} (h : Bytes w v l) : ∀ k, v.ownBlock = some k → k < w.heap.size := (h.shape).choose_spec.choose_spec.2.2.2.1
/-- A cell of it. -/
theorem Bytes.cells {w : World} {v : Value} {l : List UInt8} (h : Bytes w v l) (hl : l ≠ []) : ∃ ad c, v = .slice (some ad) l.length c ∧ l.length ≤ c ∧ c ≤ maxLen ∧ ad.block < w.heap.size ∧ ad.spot = none ∧ ∀ j u, (l.map byteV)[j]? = some u → w.cell? (ad.add j) = some u := by
  rcases h with ⟨rfl, rfl⟩ | ⟨b, off, cap, rfl, h1, h2, h3, h4⟩
  · exact absurd rfl hl
  · refine ⟨_, cap, rfl, h1, h2, h3, rfl, fun j u hu => ?_⟩
    have hj : j < l.length := by
      have := (List.getElem?_eq_some_iff.1 hu).1
      simpa using this
    have hadd : (⟨b, off, none⟩ : Addr).add j = ⟨b, off + j, none⟩ := by unfold Addr.add; split <;> simp_all
    rw [hadd, h4 j hj]
    simp only [List.getElem?_map] at hu
    rw [← hu]
    simp [hj]

theorem Bytes.known {w : World} {b off n c : Nat} {l : List UInt8} (h : Bytes w (.slice (some ⟨b, off, none⟩) n c) l) : l.length = n ∧ n ≤ c ∧ c ≤ maxLen ∧ b < w.heap.size ∧ ∀ j, j < n → w.cell? ⟨b, off + j, none⟩ = some (.int .u8 ((l[j]?.getD 0).toNat : Int)) := by
  rcases h with ⟨h, _⟩ | ⟨b', off', cap, he, h1, h2, h3, h4⟩
  · cases h
  · simp only [Value.slice.injEq, Option.some.injEq, Addr.mk.injEq, and_true] at he
    obtain ⟨⟨rfl, rfl⟩, rfl, rfl⟩ := he
    exact ⟨rfl, h1, h2, h3, h4⟩
theorem Bytes.zero {w : World} {a : Option Addr} {n c : Nat} {l : List UInt8} (h : Bytes w (.slice a n c) l) : Bytes w (.slice a 0 c) [] := by
  rcases h with ⟨h, _⟩ | ⟨b', off', cap, he, h1, h2, h3, h4⟩
  · simp only [Value.slice.injEq] at h
    obtain ⟨rfl, _, rfl⟩ := h
    exact .inl ⟨rfl, rfl⟩
  · simp only [Value.slice.injEq] at he
    obtain ⟨rfl, _, rfl⟩ := he
    exact .inr ⟨b', off', c, rfl, Nat.zero_le _, h2, h3, fun j hj => absurd hj (by simp)⟩
/-- A part of it. -/
theorem Bytes.sub {w : World} {b off n c : Nat} {l : List UInt8} (h : Bytes w (.slice (some ⟨b, off, none⟩) n c) l) (i j : Nat) (hi : i ≤ j) (hj : j ≤ n) : Bytes w (.slice (some ⟨b, off + i, none⟩) (j - i) (c - i)) ((l.take j).drop i) := by
  rcases h with ⟨h, _⟩ | ⟨b', off', cap, he, h1, h2, h3, h4⟩
  · cases h
  · cases he
    have hl : ((l.take j).drop i).length = j - i := by simp; omega
    refine .inr ⟨b, off + i, c - i, by rw [hl], by omega, by omega, h3, fun k hk => ?_⟩
    rw [Nat.add_assoc, h4 (i + k) (by omega)]
    have : ((l.take j).drop i)[k]? = l[i + k]? := by
      rw [List.getElem?_drop, List.getElem?_take_of_lt (by omega)]
    rw [this]
theorem cells_u8 : Try.prog.cellsOf 5 = 1 := by kernel_rfl
theorem info_u8 : (Try.prog.info? 5).map (fun i => (i.zero, i.size, i.bytes)) = some (some (.int .u8 0), 1, 1) := by kernel_rfl
theorem size_u8 : (Try.prog.info? 5).map (·.size) = some 1 := by kernel_rfl

@[go_sem] theorem eql_nil_u8 (w : World) (a : Option Addr) (n c : Nat) : (binOp .eql 22 (.slice a n c) (.slice none 0 0)).run Try.prog w = .ok (.bool a.isNone) w := Lib.run_eql_slice_nil w 22 5 a n c 0 0 Try.underlying22
/-- A row of bytes of one's own, from block 'base' on. -/
def OwnB (w : World) (base : Nat) (v : Value) (l : List UInt8) : Prop := w.ownsRow base 5 1 v l.length (l.map byteV)
theorem OwnB.bytes {w : World} {base : Nat} {v : Value} {l : List UInt8} (h : OwnB w base v l) : Bytes w v l := by
  obtain ⟨_, ⟨rfl, h0⟩ | ⟨g, cap, cur, rfl, hb, hg, hn, hc, hs, ht⟩⟩ := h
  · exact .inl ⟨rfl, List.eq_nil_of_length_eq_zero h0⟩
  · refine .inr ⟨g, 0, cap, rfl, hn, hc, heap_lt hg, fun j hj => ?_⟩
    rw [cell_of_row w g _ cur _ _ hg]
    have : (cur.toList.take (l.length * 1))[j]? = (l.map byteV)[j]? := by rw [ht]
    rw [List.getElem?_take_of_lt (by omega)] at this
    simp only [Array.getElem?_toList, List.getElem?_map] at this
    rw [Nat.zero_add, this]
    simp [hj]
theorem OwnB.ge {w : World} {base : Nat} {v : Value} {l : List UInt8} (h : OwnB w base v l) : ∀ k, v.ownBlock = some k → base ≤ k ∧ k < w.heap.size := World.ownsRow.lt h
theorem OwnB.keep {w w' : World} {base : Nat} {v : Value} {l : List UInt8} {S : Nat → Prop} (h : OwnB w base v l) (hU : Upd S w w') (hs : ∀ k, v.ownBlock = some k → ¬ S k) : OwnB w' base v l := by
  refine ⟨h.1, ?_⟩
  rcases h.2 with hn | ⟨g, cap, cur, rfl, hb, hgg, rest⟩
  · exact .inl hn
  · exact .inr ⟨g, cap, cur, rfl, hb, hU.at hgg (hs g rfl), rest⟩
theorem OwnB.mono {w : World} {base base' : Nat} {v : Value} {l : List UInt8} (h : OwnB w base v l) (hb : base' ≤ base) : OwnB w base' v l := by
  refine ⟨h.1, ?_⟩
  rcases h.2 with hn | ⟨g, cap, cur, rfl, h1, rest⟩
  · exact .inl hn
  · exact .inr ⟨g, cap, cur, rfl, Nat.le_trans hb h1, rest⟩
theorem OwnB.nil (w : World) (base : Nat) : OwnB w base (.slice none 0 0) [] := World.ownsRow_nil w base _ _
/-- A row that was just laid out. -/
theorem OwnB.made {w : World} {base g : Nat} {l : List UInt8} (hg : w.heap[g]? = some (.cells (rowOf l) 5 (0, 0))) (hb : base ≤ g) (hl : l.length ≤ maxLen) : OwnB w base (.slice (some ⟨g, 0, none⟩) l.length l.length) l :=
  ⟨by simp, .inr ⟨g, l.length, _, rfl, hb, hg, Nat.le_refl _, hl, by simp [rowOf], by simp [rowOf, List.take_of_length_le]⟩⟩

/-- Cuts of a slice of bytes. -/
theorem sl_mid {b off n cap : Nat} (i j : Nat) {lo hi : Int} (hlo : lo = i) (hhi : hi = j) (hij : i ≤ j) (hj : j ≤ cap) (hi' : i < cap) {m c : Nat} (hm : m = j - i) (hc : c = cap - i) (W : World) :
    (Instr.slice 22 (.slice (some ⟨b, off, none⟩) n cap) (some (.int .i64 lo)) (some (.int .i64 hi)) none).run Try.prog W = .ok (.slice (some ⟨b, off + i, none⟩) m c) W := by
  subst hlo hhi hm hc
  rw [run_slice_lh W 22 _ _ _ Try.underlying22 .i64 .i64 _ _ (by omega) (by omega) (by omega)]
  have hs : (sizeOf (Try.prog.elem 22)).run Try.prog W = .ok 1 W := by kernel_rfl
  rw [hs]
  simp only [Result.andThen, sliced, Int.toNat_natCast]
  rw [if_neg (by omega)]
  simp only [Option.map, Nat.mul_one]
  congr 3
  unfold Addr.add
  split <;> simp_all
theorem sl_from {b off n cap : Nat} (i : Nat) {lo : Int} (hlo : lo = i) (hij : i ≤ n) (hi' : i < cap) {m c : Nat} (hm : m = n - i) (hc : c = cap - i) (W : World) :
    (Instr.slice 22 (.slice (some ⟨b, off, none⟩) n cap) (some (.int .i64 lo)) none none).run Try.prog W = .ok (.slice (some ⟨b, off + i, none⟩) m c) W := by
  subst hlo hm hc
  rw [run_slice_l W 22 _ _ _ Try.underlying22 .i64 _ (by omega) (by omega)]
  have hs : (sizeOf (Try.prog.elem 22)).run Try.prog W = .ok 1 W := by kernel_rfl
  rw [hs]
  simp only [Result.andThen, sliced, Int.toNat_natCast]
  rw [if_neg (by omega)]
  simp only [Option.map, Nat.mul_one]
  congr 3
  unfold Addr.add
  split <;> simp_all
theorem sl_to {b off n cap : Nat} (j : Nat) {hi : Int} (hhi : hi = j) (hj : j ≤ cap) (W : World) :
    (Instr.slice 22 (.slice (some ⟨b, off, none⟩) n cap) none (some (.int .i64 hi)) none).run Try.prog W = .ok (.slice (some ⟨b, off, none⟩) j cap) W := by
  subst hhi
  rw [run_slice_h W 22 _ _ _ Try.underlying22 .i64 _ (by omega) (by omega)]
  have hs : (sizeOf (Try.prog.elem 22)).run Try.prog W = .ok 1 W := by kernel_rfl
  rw [hs]
  simp only [Result.andThen, sliced, Int.toNat_natCast]
  split <;> simp [Addr.add]
/-- append, in general. -/
theorem run_app {w : World} {base : Nat} {v v2 : Value} {l l2 : List UInt8} (ty : TypeId) (h : OwnB w base v l) (h2 : Bytes w v2 l2) (hl : l.length + l2.length ≤ 1000000000000) (hb : base ≤ w.heap.size) :
    ∃ v' w', (Builtin.append_ #[22, 22] ty #[v, v2]).run Try.prog w = .ok v' w' ∧ OwnB w' base v' (l ++ l2) ∧ w.grownBy w' v.ownBlock ∧ (v' = .slice none 0 0 ↔ v = .slice none 0 0 ∧ l2.length = 0) := by
  obtain ⟨i0, hi, hz0, hz1, hz2⟩ := info_parts info_u8
  by_cases hn : v2 = .slice none 0 0
  · subst hn
    have h2' : l2 = [] := by
      rcases h2 with ⟨_, h⟩ | ⟨b, off, cap, h, _⟩
      · exact h
      · cases h
    subst h2'
    refine ⟨v, w, run_append_owned_none (P := Try.prog) (w := w) base 22 ty 5 i0 1 Try.underlying22 hi v _ _ h, by simpa using h, ⟨rfl, rfl, rfl, Nat.le_refl _, fun _ _ _ => rfl⟩, by simp⟩
  · obtain ⟨ad, c, rfl, hcells⟩ : ∃ ad c, v2 = .slice (some ad) l2.length c ∧ ∀ j u, (l2.map byteV)[j]? = some u → w.cell? (ad.add j) = some u := by
      rcases h2 with ⟨h, _⟩ | ⟨b, off, cap, rfl, h1, h3, h4, h5⟩
      · exact absurd h hn
      · refine ⟨_, cap, rfl, fun j u hu => ?_⟩
        have hne : l2 ≠ [] := by rintro rfl; simp at hu
        obtain ⟨ad, c, he, _, _, _, _, hx⟩ := Bytes.cells (.inr ⟨b, off, cap, rfl, h1, h3, h4, h5⟩) hne
        cases he
        exact hx j u hu
    have := run_append_own (P := Try.prog) w base 22 ty 5 i0 (.int .u8 0) 1 1 Try.underlying22 hi hz0 hz1 hz2 rfl (by decide) v l.length _ h ad l2.length c (l2.map byteV) (by simp) hcells (by simp [Value.oneCell'])
      (by unfold maxLen; omega) (by omega) hb
    obtain ⟨v', w', hr, h1, h3, h4⟩ := this
    exact ⟨v', w', hr, by unfold OwnB; rw [List.length_append, List.map_append]; exact h1, h3, h4⟩

section
variable {P : Program} {ops : Array Oper} {rest : List Oper} {o : Oper} {a : Act} {w w' : World} {Q : Exit → Act → World → Prop} {v : Value}
/-- An operation whose run is known. -/
theorem wpList_run (hgd : o.guard = none) (hr : (execOp a.eval o).run P w = .ok (.value v) w') (h : wpList P ops Q rest (a.put o.dst v) w') : wpList P ops Q (o :: rest) a w := by
  refine wpList_plain hgd fun K hK => ?_
  unfold Oper.wp
  rw [hr]
  exact hK _ _ h
theorem wpListIn_run {F : Fence} {n : Nat} (hgd : o.guard = none) (hd : ∀ c, o.op ≠ .defer c) (hab : o.about P w a.eval = none) (hr : (execOp a.eval o).run P w = .ok (.value v) w') (h : wpListIn F n P ops Q rest (a.put o.dst v) w') : wpListIn F n P ops Q (o :: rest) a w := by
  refine wpListIn_plain hgd fun K hK => ?_
  unfold Oper.wpIn
  refine ⟨fun f hf => (by rw [hab] at hf; cases hf), ?_⟩
  rw [Oper.semAt_plain F _ _ hd, hr]
  exact hK _ _ h
/-- The same as a step of a region that draws its order. -/
theorem step_run {K : Act → World → Prop} {E : Prop} (hgd : o.guard = none) (hr : (execOp a.eval o).run P w = .ok (.value v) w') (h : K (a.put o.dst v) w') : if Region.wanted o (yielded ops a.tmps) = true then Oper.wp P o a w K Q else E := by
  rw [if_pos (by simp [Region.wanted, hgd])]
  unfold Oper.wp
  rw [hr]
  exact h
theorem exec_append {s x : Operand} {t : TypeId} {v1 v2 : Value} (ho : o.op = .call { callee := .builtin .append, args := #[s, x], argTypes := #[t, t] }) (hs : a.eval s = v1) (hx : a.eval x = v2)
    (hr : (Builtin.append_ #[t, t] o.type #[v1, v2]).run P w = .ok v w') : (execOp a.eval o).run P w = .ok (.value v) w' := by
  simp [execOp, ho, resolve, invoke, builtin, hs, hx, hr, Result.andThen]
theorem exec_copy {s x : Operand} {t t' : TypeId} {v1 v2 : Value} (ho : o.op = .call { callee := .builtin .copy, args := #[s, x], argTypes := #[t, t'] }) (hs : a.eval s = v1) (hx : a.eval x = v2)
    (hr : (Builtin.copy_ #[t, t'] o.type #[v1, v2]).run P w = .ok v w') : (execOp a.eval o).run P w = .ok (.value v) w' := by
  simp [execOp, ho, resolve, invoke, builtin, hs, hx, hr, Result.andThen]
theorem exec_make {x y : Operand} {t : TypeId} {v1 v2 : Value} (ho : o.op = .makeSlice t x y) (hs : a.eval x = v1) (hx : a.eval y = v2)
    (hr : (Instr.makeSlice t v1 v2).run P w = .ok v w') : (execOp a.eval o).run P w = .ok (.value v) w' := by
  simp [execOp, ho, hs, hx, hr, Result.andThen]
theorem about_builtin {b : Builtin} {args : Array Operand} {ts : Array TypeId} (ho : o.op = .call { callee := .builtin b, args := args, argTypes := ts }) : o.about P w a.eval = none := by
  simp [Oper.about, ho, resolve, Target.leads, Sem.run_pure]
end

theorem Bytes.lit {w : World} {g : Nat} {l : List UInt8} (hg : w.heap[g]? = some (.cells (rowOf l) 5 (0, 0))) (hl : l.length ≤ maxLen) : Bytes w (.slice (some ⟨g, 0, none⟩) l.length l.length) l := (OwnB.made (base := 0) hg (Nat.zero_le _) hl).bytes
/-- The bytes of an array in a box. -/
theorem Bytes.box {w : World} {g : Nat} {t : TypeId} {l : List UInt8} (hg : w.heap[g]? = some (.cells (rowOf l) t (0, 0))) (hl : l.length ≤ maxLen) : Bytes w (.slice (some ⟨g, 0, none⟩) l.length l.length) l := by
  refine .inr ⟨g, 0, l.length, rfl, Nat.le_refl _, hl, heap_lt hg, fun j hj => ?_⟩
  rw [cell_of_row w g _ _ _ _ hg, rowOf, Nat.zero_add]
  simp [hj]
/-- make([]byte, n). -/
theorem run_make_u8 (w : World) (n : Nat) (h : n ≤ 100000000000) : (Instr.makeSlice 22 (.int .i64 (n : Int)) (.int .i64 (n : Int))).run Try.prog w = .ok (.slice (some ⟨w.heap.size, 0, none⟩) n n) (w.alloc (.cells (rowOf (List.replicate n (0 : UInt8))) 5)) := by
  obtain ⟨i0, hi, hz0, hz1, hz2⟩ := info_parts info_u8
  have := run_make (P := Try.prog) w 22 5 i0 (.int .u8 0) Try.underlying22 hi hz0 .i64 .i64 (n : Int) (n : Int) (by omega) (by omega) (by rw [hz2]; omega) (by omega)
  rw [this, hz1]
  unfold rowOf
  have e : madeCells (Value.int .u8 0).cells ((n : Int).toNat * 1) = ((List.replicate n (0 : UInt8)).map byteV).toArray := by
    apply Array.toList_inj.1
    rw [show (Value.int .u8 0).cells = #[Value.int .u8 0] from rfl, toList_madeCells_one]
    simp [byteV]
  rw [e]
  simp
theorem map_take_drop {α β : Type} (f : α → β) (cur l : List α) (o k : Nat) : ((cur.map f).take o ++ (l.take k).map f ++ (cur.map f).drop (o + k)) = (cur.take o ++ l.take k ++ cur.drop (o + k)).map f := by
  simp [List.map_append, List.map_take, List.map_drop]
/-- copy, into a row that is known whole. -/
theorem run_copy_u8 {w : World} {g off dLen dCap : Nat} {v : Value} {cur l : List UInt8} (ty : TypeId) (hg : w.heap[g]? = some (.cells (rowOf cur) 5 (0, 0))) (hb : Bytes w v l) (hfit : off + min l.length dLen ≤ cur.length) :
    ∃ w', (Builtin.copy_ #[22, 22] ty #[.slice (some ⟨g, off, none⟩) dLen dCap, v]).run Try.prog w = .ok (goInt (min l.length dLen : Nat)) w' ∧
      w'.heap[g]? = some (.cells (rowOf (cur.take off ++ l.take (min l.length dLen) ++ cur.drop (off + min l.length dLen))) 5 (0, 0)) ∧ Upd (One g) w w' := by
  unfold rowOf at *
  by_cases hl : l = []
  · subst hl
    have hv : ∃ a c, v = .slice a 0 c ∧ (a = none → c = 0) := by
      obtain ⟨a, c, rfl, _, _, _, h⟩ := hb.shape
      exact ⟨a, c, rfl, fun e => (h e).2⟩
    obtain ⟨a, c, rfl, hc⟩ := hv
    refine ⟨w, ?_, by simpa using hg, Upd.refl _ _⟩
    cases a with
    | none =>
      rw [hc rfl]
      simpa using run_copy_nil Try.prog w 22 22 ty 5 ⟨g, off, none⟩ dLen dCap Try.underlying22 (by rw [size_u8]; rfl)
    | some ad =>
      have := run_copy_row Try.prog w 22 22 ty 5 g off dLen dCap ad 0 c (cur.map byteV).toArray 5 [] Try.underlying22 size_u8 hg (by simp) (by simp) (by simp at hfit ⊢; omega) (by simp)
      simp only [List.append_nil, List.length_nil, Nat.add_zero, List.take_append_drop] at this
      rw [this]
      have hs := setRow_self w g (cur.map byteV).toArray 5 (0, 0) hg
      simp only [List.length_nil, Nat.zero_min]
      congr 1
  · obtain ⟨ad, c, rfl, _, _, _, _, hcells⟩ := hb.cells hl
    have hm : min l.length dLen ≤ l.length := Nat.min_le_left _ _
    have := run_copy_row Try.prog w 22 22 ty 5 g off dLen dCap ad l.length c (cur.map byteV).toArray 5 ((l.take (min l.length dLen)).map byteV) Try.underlying22 size_u8 hg (by simp [Nat.min_comm])
      (fun j u hu => hcells j u (by
        simp only [List.getElem?_map, List.getElem?_take] at hu ⊢
        split at hu
        · exact hu
        · cases hu)) (by simp [Nat.min_eq_left hm]; omega) (fun v hv => by obtain ⟨x, _, rfl⟩ := List.mem_map.1 hv; rfl)
    refine ⟨_, this.trans (by rw [List.length_map, List.length_take, Nat.min_eq_left hm]), ?_, (Upd.refl (One g) w).setRow (.inr (by simp [One])) _⟩
    rw [setRow_heap w g _ _ _ _ hg]
    simp only [List.length_map, List.length_take, Nat.min_eq_left hm]
    rw [← map_take_drop]
theorem foldl_push (l : List UInt8) : ∀ s : ByteArray, (l.map fun x => ((x.toNat : Nat) : Int)).foldl (fun r n => r.push (UInt8.ofNat n.toNat)) s = ⟨s.data ++ l.toArray⟩ := by
  induction l with
  | nil => intro s; simp
  | cons x l ih =>
    intro s
    simp only [List.map_cons, List.foldl_cons]
    rw [ih]
    simp [ByteArray.push]
theorem wpList_copy_u8 {ops : Array Oper} {rest : List Oper} {o : Oper} {a : Act} {w : World} {Q : Exit → Act → World → Prop} (hgd : o.guard = none) (d s : Operand) (ho : o.op = .call { callee := .builtin .copy, args := #[d, s], argTypes := #[22, 22] })
    (g off dLen dCap : Nat) (hd : a.eval d = .slice (some ⟨g, off, none⟩) dLen dCap) (v : Value) (hs : a.eval s = v) (cur l : List UInt8) (hg : w.heap[g]? = some (.cells (rowOf cur) 5 (0, 0))) (hb : Bytes w v l) (hfit : off + min l.length dLen ≤ cur.length)
    (h : ∀ w', w'.heap[g]? = some (.cells (rowOf (cur.take off ++ l.take (min l.length dLen) ++ cur.drop (off + min l.length dLen))) 5 (0, 0)) → Upd (One g) w w' → wpList Try.prog ops Q rest (a.put o.dst (goInt (min l.length dLen : Nat))) w') : wpList Try.prog ops Q (o :: rest) a w := by
  obtain ⟨w', hr, h1, h2⟩ := run_copy_u8 (dCap := dCap) o.type hg hb hfit
  exact wpList_run hgd (exec_copy ho hd hs hr) (h w' h1 h2)
theorem step_copy_u8 {ops : Array Oper} {o : Oper} {a : Act} {w : World} {K : Act → World → Prop} {Q : Exit → Act → World → Prop} {E : Prop} (hgd : o.guard = none) (d s : Operand) (ho : o.op = .call { callee := .builtin .copy, args := #[d, s], argTypes := #[22, 22] })
    (g off dLen dCap : Nat) (hd : a.eval d = .slice (some ⟨g, off, none⟩) dLen dCap) (v : Value) (hs : a.eval s = v) (cur l : List UInt8) (hg : w.heap[g]? = some (.cells (rowOf cur) 5 (0, 0))) (hb : Bytes w v l) (hfit : off + min l.length dLen ≤ cur.length)
    (h : ∀ w', w'.heap[g]? = some (.cells (rowOf (cur.take off ++ l.take (min l.length dLen) ++ cur.drop (off + min l.length dLen))) 5 (0, 0)) → Upd (One g) w w' → K (a.put o.dst (goInt (min l.length dLen : Nat))) w') : if Region.wanted o (yielded ops a.tmps) = true then Oper.wp Try.prog o a w K Q else E := by
  obtain ⟨w', hr, h1, h2⟩ := run_copy_u8 (dCap := dCap) o.type hg hb hfit
  exact step_run hgd (exec_copy ho hd hs hr) (h w' h1 h2)
theorem wpList_append_u8 {ops : Array Oper} {rest : List Oper} {o : Oper} {a : Act} {w : World} {Q : Exit → Act → World → Prop} (hgd : o.guard = none) (d s : Operand) (ho : o.op = .call { callee := .builtin .append, args := #[d, s], argTypes := #[22, 22] })
    (base : Nat) (v v2 : Value) (hd : a.eval d = v) (hs : a.eval s = v2) (l l2 : List UInt8) (hown : OwnB w base v l) (hb : Bytes w v2 l2) (hl : l.length + l2.length ≤ 1000000000000) (hbase : base ≤ w.heap.size)
    (h : ∀ v' w', OwnB w' base v' (l ++ l2) → w.grownBy w' v.ownBlock → (v' = .slice none 0 0 ↔ v = .slice none 0 0 ∧ l2.length = 0) → wpList Try.prog ops Q rest (a.put o.dst v') w') : wpList Try.prog ops Q (o :: rest) a w := by
  obtain ⟨v', w', hr, h1, h2, h3⟩ := run_app o.type hown hb hl hbase
  exact wpList_run hgd (exec_append ho hd hs hr) (h v' w' h1 h2 h3)
theorem wpList_make_u8 {ops : Array Oper} {rest : List Oper} {o : Oper} {a : Act} {w : World} {Q : Exit → Act → World → Prop} (hgd : o.guard = none) (x y : Operand) (ho : o.op = .makeSlice 22 x y)
    (n : Nat) (hx : a.eval x = .int .i64 (n : Int)) (hy : a.eval y = .int .i64 (n : Int)) (hn : n ≤ 100000000000)
    (h : wpList Try.prog ops Q rest (a.put o.dst (.slice (some ⟨w.heap.size, 0, none⟩) n n)) (w.alloc (.cells (rowOf (List.replicate n (0 : UInt8))) 5))) : wpList Try.prog ops Q (o :: rest) a w :=
  wpList_run hgd (exec_make ho hx hy (run_make_u8 w n hn)) h
/-- A slice of bytes as a string. -/
theorem run_str {w : World} {v : Value} {l : List UInt8} (h : Bytes w v l) : (convert 22 9 v).run Try.prog w = .ok (.string ⟨l.toArray⟩) w := by
  rcases h with ⟨rfl, rfl⟩ | ⟨b, off, cap, rfl, h1, h2, h3, h4⟩
  · rw [run_convert_bytes_string w 22 9 5 _ _ _ Try.underlying22 Try.underlying5 Try.underlying9]
    rfl
  · rw [run_convert_bytes_string w 22 9 5 _ _ _ Try.underlying22 Try.underlying5 Try.underlying9]
    have hl : (loadCells ⟨b, off, none⟩ l.length).run Try.prog w = .ok ((l.map fun x => ((x.toNat : Nat) : Int)).map (Value.int .u8)).toArray w := by
      have := run_loadCells_list (P := Try.prog) w ⟨b, off, none⟩ ((l.map fun x => ((x.toNat : Nat) : Int)).map (Value.int .u8)) (fun j v hv => by
        have hj : j < l.length := by
          have := (List.getElem?_eq_some_iff.1 hv).1
          simpa using this
        have hadd : (⟨b, off, none⟩ : Addr).add j = ⟨b, off + j, none⟩ := by unfold Addr.add; split <;> simp_all
        rw [hadd, h4 j hj, ← hv]
        simp [hj])
      simpa using this
    rw [run_bytesToString w _ _ _ _ hl, foldl_push]
    simp
end Go.Proofs.Ytddohdfccagbbaa
