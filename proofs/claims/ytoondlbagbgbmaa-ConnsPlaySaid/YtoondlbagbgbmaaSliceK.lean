/- Slices of whatever has k cells: what they hold ('SlK'), rows of one's own ('OwnK'), appending. -/
import Derived.Test.YtoondlbagbgbmaaRows
import Derived.Test.YtoondlbagbgbmaaBase
import Derived.Test.YtoondlbagbgbmaaOps
namespace Go.Proofs.Ytoondlbagbgbmaa
open Go.RowKit Go.Shelf

/-- How elements lie in cells. -/
structure EncK {α : Type} (enc : α → List Value) (k : Nat) : Prop where
  len : ∀ x, (enc x).length = k
  one : ∀ x v, v ∈ enc x → v.oneCell' = true
/-- A slice's type and its elements'. -/
structure ElT (P : Program) (T E : TypeId) (k B : Nat) : Prop where
  under : P.underlying T = some (.slice E)
  info : ∃ i z, P.info? E = some i ∧ i.zero = some z ∧ i.size = k ∧ i.bytes = B ∧ z.cells.size = k
  pos : 0 < k
  small : B ≤ 1000
theorem ElT.of {P : Program} {T E : TypeId} {k B : Nat} {z : Value} (h : P.underlying T = some (.slice E)) (hi : (P.info? E).map (fun i => (i.zero, i.size, i.bytes)) = some (some z, k, B)) (hz : z.cells.size = k) (hk : 0 < k) (hB : B ≤ 1000) : ElT P T E k B := by
  obtain ⟨i, h1, h2, h3, h4⟩ := info_parts hi
  exact ⟨h, ⟨i, z, h1, h2, h3, h4, hz⟩, hk, hB⟩
theorem ElT.size {P : Program} {T E : TypeId} {k B : Nat} (h : ElT P T E k B) : (P.info? E).map (·.size) = some k := by
  obtain ⟨i, z, h1, _, h3, _⟩ := h.info
  rw [h1]; simp [h3]

section
variable {α : Type} {enc : α → List Value} {k : Nat}
theorem EncK.flat_length (h : EncK enc k) : ∀ l : List α, (l.flatMap enc).length = l.length * k
  | [] => by simp
  | a :: l => by simp only [List.flatMap_cons, List.length_append, h.len, h.flat_length l, List.length_cons, Nat.add_mul, Nat.one_mul]; omega
theorem EncK.flat_get (h : EncK enc k) : ∀ (l : List α) (i j : Nat), j < k → (l.flatMap enc)[i * k + j]? = (l[i]?).bind fun x => (enc x)[j]?
  | [], i, j, _ => by simp
  | a :: l, i, j, hj => by
    rw [List.flatMap_cons]
    cases i with
    | zero => rw [List.getElem?_append_left (by rw [h.len]; omega)]; simp
    | succ i =>
      rw [List.getElem?_append_right (by rw [h.len, Nat.add_mul]; omega), h.len]
      have := h.flat_get l i j hj
      rw [show (i + 1) * k + j - k = i * k + j from by rw [Nat.add_mul]; omega, this]
      simp
theorem EncK.flat_one (h : EncK enc k) (l : List α) : ∀ v, v ∈ l.flatMap enc → v.oneCell' = true := fun v hv => by
  obtain ⟨x, _, hx⟩ := List.mem_flatMap.1 hv
  exact h.one x v hx
/-- The slice value v holds the elements l. -/
def SlK (enc : α → List Value) (w : World) (v : Value) (l : List α) : Prop :=
  (v = .slice none 0 0 ∧ l = []) ∨ ∃ b off cap, v = .slice (some ⟨b, off, none⟩) l.length cap ∧ l.length ≤ cap ∧ cap ≤ maxLen ∧ b < w.heap.size ∧
    ∀ j u, (l.flatMap enc)[j]? = some u → w.cell? ⟨b, off + j, none⟩ = some u
theorem SlK.upd {S : Nat → Prop} {w w' : World} {v : Value} {l : List α} (h : SlK enc w v l) (hU : Upd S w w') (hs : ∀ k, v.ownBlock = some k → ¬ S k) : SlK enc w' v l := by
  rcases h with h | ⟨b, off, cap, rfl, h1, h2, h3, h4⟩
  · exact .inl h
  · exact .inr ⟨b, off, cap, rfl, h1, h2, Nat.lt_of_lt_of_le h3 hU.size, fun j u hj => hU.cell (h4 j u hj) (hs b rfl)⟩
theorem SlK.no {w w' : World} {v : Value} {l : List α} (h : SlK enc w v l) (hU : Upd No w w') : SlK enc w' v l := h.upd hU (fun _ _ h => h)
theorem SlK.shape {w : World} {v : Value} {l : List α} (h : SlK enc w v l) : ∃ a c, v = .slice a l.length c ∧ l.length ≤ c ∧ c ≤ maxLen ∧ (∀ k, v.ownBlock = some k → k < w.heap.size) ∧ (a = none → l = [] ∧ c = 0) := by
  rcases h with ⟨rfl, rfl⟩ | ⟨b, off, cap, rfl, h1, h2, h3, h4⟩
  · exact ⟨none, 0, rfl, Nat.le_refl _, by unfold maxLen; omega, fun k hk => by simp [Value.ownBlock] at hk, fun _ => ⟨rfl, rfl⟩⟩
  · exact ⟨_, cap, rfl, h1, h2, fun k hk => by simp [Value.ownBlock] at hk; omega, fun h => by cases h⟩
theorem SlK.lt {w : World} {v : Value} {l : List α} (h : SlK enc w v l) : ∀ k, v.ownBlock = some k → k < w.heap.size := (h.shape).choose_spec.choose_spec.2.2.2.1
/-- What is known of a slice that is not empty. -/
theorem SlK.known (hE : EncK enc k) {w : World} {v : Value} {l : List α} (h : SlK enc w v l) {i : Nat} {x : α} (hx : l[i]? = some x) : ∃ b off cap, v = .slice (some ⟨b, off, none⟩) l.length cap ∧ l.length ≤ cap ∧ cap ≤ maxLen ∧ b < w.heap.size ∧ ∀ j, j < k → w.cell? ⟨b, off + i * k + j, none⟩ = (enc x)[j]? := by
  rcases h with ⟨_, rfl⟩ | ⟨b, off, cap, rfl, h1, h2, h3, h4⟩
  · simp at hx
  · refine ⟨b, off, cap, rfl, h1, h2, h3, fun j hj => ?_⟩
    have hg := hE.flat_get l i j hj
    rw [hx, Option.bind_some] at hg
    cases he : (enc x)[j]? with
    | none => rw [List.getElem?_eq_none_iff, hE.len] at he; omega
    | some u =>
      rw [he] at hg
      have := h4 _ u hg
      rw [Nat.add_assoc]
      exact this
theorem SlK.at (hE : EncK enc k) {w : World} {b off n c : Nat} {l : List α} (h : SlK enc w (.slice (some ⟨b, off, none⟩) n c) l) : l.length = n ∧ n ≤ c ∧ c ≤ maxLen ∧ b < w.heap.size ∧ ∀ i x, l[i]? = some x → ∀ j, j < k → w.cell? ⟨b, off + i * k + j, none⟩ = (enc x)[j]? := by
  rcases h with ⟨h, _⟩ | ⟨b', off', cap, he, h1, h2, h3, h4⟩
  · cases h
  · simp only [Value.slice.injEq, Option.some.injEq, Addr.mk.injEq, and_true] at he
    obtain ⟨⟨rfl, rfl⟩, rfl, rfl⟩ := he
    refine ⟨rfl, h1, h2, h3, fun i x hx j hj => ?_⟩
    have hg := hE.flat_get l i j hj
    rw [hx, Option.bind_some] at hg
    cases he : (enc x)[j]? with
    | none => rw [List.getElem?_eq_none_iff, hE.len] at he; omega
    | some u =>
      rw [he] at hg
      have := h4 _ u hg
      rw [Nat.add_assoc]
      exact this
theorem SlK.zero {w : World} {a : Option Addr} {n c : Nat} {l : List α} (h : SlK enc w (.slice a n c) l) : SlK enc w (.slice a 0 c) [] := by
  rcases h with ⟨h, _⟩ | ⟨b', off', cap, he, h1, h2, h3, h4⟩
  · simp only [Value.slice.injEq] at h
    obtain ⟨rfl, _, rfl⟩ := h
    exact .inl ⟨rfl, rfl⟩
  · simp only [Value.slice.injEq] at he
    obtain ⟨rfl, _, rfl⟩ := he
    exact .inr ⟨b', off', c, rfl, Nat.zero_le _, h2, h3, fun j u hj => by simp at hj⟩
/-- A part of it. -/
theorem SlK.sub (hE : EncK enc k) {w : World} {b off n c : Nat} {l : List α} (h : SlK enc w (.slice (some ⟨b, off, none⟩) n c) l) (i j : Nat) (hi : i ≤ j) (hj : j ≤ n) : SlK enc w (.slice (some ⟨b, off + i * k, none⟩) (j - i) (c - i)) ((l.take j).drop i) := by
  rcases h with ⟨h, _⟩ | ⟨b', off', cap, he, h1, h2, h3, h4⟩
  · cases h
  · cases he
    have hl : ((l.take j).drop i).length = j - i := by simp; omega
    refine .inr ⟨b, off + i * k, c - i, by rw [hl], by omega, by omega, h3, fun m u hm => ?_⟩
    rw [Nat.add_assoc]
    refine h4 _ u ?_
    have hsplit : l.flatMap enc = (l.take i).flatMap enc ++ (((l.take j).drop i).flatMap enc ++ (l.drop j).flatMap enc) := by
      rw [← List.flatMap_append, ← List.flatMap_append]
      congr 1
      have : (l.take j).drop i ++ l.drop j = l.drop i := by
        have h := congrArg (List.drop i) (List.take_append_drop j l)
        rw [List.drop_append_of_le_length (by simp; omega)] at h
        exact h
      rw [this, List.take_append_drop]
    have hti : ((l.take i).flatMap enc).length = i * k := by rw [hE.flat_length, List.length_take, Nat.min_eq_left (by omega)]
    rw [hsplit, List.getElem?_append_right (by omega), hti, Nat.add_sub_cancel_left, List.getElem?_append_left (List.getElem?_eq_some_iff.1 hm).1]
    exact hm

/-- A row of one's own, from block 'base' on. -/
def OwnK (enc : α → List Value) (E : TypeId) (k : Nat) (w : World) (base : Nat) (v : Value) (l : List α) : Prop := w.ownsRow base E k v l.length (l.flatMap enc)
variable {E : TypeId}
theorem OwnK.sl (_hE : EncK enc k) {w : World} {base : Nat} {v : Value} {l : List α} (h : OwnK enc E k w base v l) : SlK enc w v l := by
  obtain ⟨hx, ⟨rfl, h0⟩ | ⟨g, cap, cur, rfl, hb, hg, hn, hc, hs, ht⟩⟩ := h
  · exact .inl ⟨rfl, List.eq_nil_of_length_eq_zero h0⟩
  · refine .inr ⟨g, 0, cap, rfl, hn, hc, heap_lt hg, fun j u hj => ?_⟩
    rw [cell_of_row w g _ cur _ _ hg, Nat.zero_add, ← hj]
    have hlt : j < (l.flatMap enc).length := (List.getElem?_eq_some_iff.1 hj).1
    rw [hx] at hlt
    rw [← ht, List.getElem?_take_of_lt hlt, Array.getElem?_toList]
theorem OwnK.ge {w : World} {base : Nat} {v : Value} {l : List α} (h : OwnK enc E k w base v l) : ∀ k, v.ownBlock = some k → base ≤ k ∧ k < w.heap.size := World.ownsRow.lt h
theorem OwnK.keep {w w' : World} {base : Nat} {v : Value} {l : List α} {S : Nat → Prop} (h : OwnK enc E k w base v l) (hU : Upd S w w') (hs : ∀ k, v.ownBlock = some k → ¬ S k) : OwnK enc E k w' base v l := by
  refine ⟨h.1, ?_⟩
  rcases h.2 with hn | ⟨g, cap, cur, rfl, hb, hgg, rest⟩
  · exact .inl hn
  · exact .inr ⟨g, cap, cur, rfl, hb, hU.at hgg (hs g rfl), rest⟩
theorem OwnK.mono {w : World} {base base' : Nat} {v : Value} {l : List α} (h : OwnK enc E k w base v l) (hb : base' ≤ base) : OwnK enc E k w base' v l := by
  refine ⟨h.1, ?_⟩
  rcases h.2 with hn | ⟨g, cap, cur, rfl, h1, rest⟩
  · exact .inl hn
  · exact .inr ⟨g, cap, cur, rfl, Nat.le_trans hb h1, rest⟩
theorem OwnK.nil (w : World) (base : Nat) : OwnK enc E k w base (.slice none 0 0) [] := World.ownsRow_nil w base _ _
/-- A row that lies whole in a block. -/
theorem OwnK.made (hE : EncK enc k) {w : World} {base g : Nat} {l : List α} (hg : w.heap[g]? = some (.cells (l.flatMap enc).toArray E (0, 0))) (hb : base ≤ g) (hl : l.length ≤ maxLen) : OwnK enc E k w base (.slice (some ⟨g, 0, none⟩) l.length l.length) l :=
  ⟨hE.flat_length l, .inr ⟨g, l.length, _, rfl, hb, hg, Nat.le_refl _, hl, by simp [hE.flat_length], by rw [← hE.flat_length l]; exact List.take_length⟩⟩
/-- Its block is of its elements' type. -/
theorem OwnK.block {w : World} {base : Nat} {v : Value} {l : List α} (h : OwnK enc E k w base v l) {g : Nat} (hg : v.ownBlock = some g) : ∃ cur, w.heap[g]? = some (.cells cur E (0, 0)) := by
  rcases h.2 with ⟨rfl, _⟩ | ⟨g', cap, cur, rfl, hb, hgg, rest⟩
  · simp [Value.ownBlock] at hg
  · simp only [Value.ownBlock, Option.some.injEq] at hg
    subst hg
    exact ⟨cur, hgg⟩

theorem OwnK.form {w : World} {base : Nat} {v : Value} {l : List α} (h : OwnK enc E k w base v l) : (v = .slice none 0 0 ∧ l = []) ∨ ∃ g cap, v = .slice (some ⟨g, 0, none⟩) l.length cap ∧ l.length ≤ cap ∧ cap ≤ maxLen ∧ base ≤ g ∧ g < w.heap.size := by
  rcases h.2 with ⟨rfl, h0⟩ | ⟨g, cap, cur, rfl, hb, hg, hn, hc, _⟩
  · exact .inl ⟨rfl, List.eq_nil_of_length_eq_zero h0⟩
  · exact .inr ⟨g, cap, rfl, hn, hc, hb, heap_lt hg⟩
theorem OwnK.keepObj {w w' : World} {base : Nat} {v : Value} {l : List α} (h : OwnK enc E k w base v l) (hk : ∀ g cur, v.ownBlock = some g → w.heap[g]? = some (.cells cur E (0, 0)) → w'.heap[g]? = some (.cells cur E (0, 0))) : OwnK enc E k w' base v l := by
  refine ⟨h.1, ?_⟩
  rcases h.2 with hn | ⟨g, cap, cur, rfl, hb, hgg, rest⟩
  · exact .inl hn
  · exact .inr ⟨g, cap, cur, rfl, hb, hk g cur rfl hgg, rest⟩
theorem OwnK.slice {w : World} {base : Nat} {v : Value} {l : List α} (h : OwnK enc E k w base v l) : ∃ a n c, v = .slice a n c := by
  rcases h.form with ⟨rfl, rfl⟩ | ⟨g, cap, rfl, _⟩
  · exact ⟨none, 0, 0, rfl⟩
  · exact ⟨_, _, cap, rfl⟩
theorem OwnK.none_len {w : World} {base : Nat} {l : List α} {n c : Nat} (h : OwnK enc E k w base (.slice none n c) l) : l = [] ∧ n = 0 ∧ c = 0 := by
  rcases h.form with ⟨h1, h2⟩ | ⟨g, cap, h1, _⟩
  · simp only [Value.slice.injEq, true_and] at h1
    exact ⟨h2, h1⟩
  · cases h1
/-- append, in general. -/
theorem run_app_k {P : Program} {T : TypeId} {B : Nat} (hT : ElT P T E k B) (hE : EncK enc k) {w : World} {base : Nat} {v v2 : Value} {l l2 : List α} (ty : TypeId) (h : OwnK enc E k w base v l) (h2 : SlK enc w v2 l2) (hl : l.length + l2.length ≤ 100000000000) (hb : base ≤ w.heap.size) :
    ∃ v' w', (Builtin.append_ #[T, T] ty #[v, v2]).run P w = .ok v' w' ∧ OwnK enc E k w' base v' (l ++ l2) ∧ w.grownBy w' v.ownBlock ∧ (v' = .slice none 0 0 ↔ v = .slice none 0 0 ∧ l2.length = 0) := by
  obtain ⟨i0, z, hi, hz0, hz1, hz2, hz3⟩ := hT.info
  by_cases hn : v2 = .slice none 0 0
  · subst hn
    have h2' : l2 = [] := by
      rcases h2 with ⟨_, h⟩ | ⟨b, off, cap, h, _⟩
      · exact h
      · cases h
    subst h2'
    refine ⟨v, w, run_append_owned_none (P := P) (w := w) base T ty E i0 k hT.under hi v _ _ h, by simpa using h, ⟨rfl, rfl, rfl, Nat.le_refl _, fun _ _ _ => rfl⟩, by simp⟩
  · rcases h2 with ⟨h2, _⟩ | ⟨b, off, cap, rfl, h1, h3, h4, h5⟩
    · exact absurd h2 hn
    have := run_append_own (P := P) w base T ty E i0 z k B hT.under hi hz0 hz1 hz2 hz3 hT.pos v l.length _ h ⟨b, off, none⟩ l2.length cap (l2.flatMap enc) (hE.flat_length l2) (fun j u hj => by
        have hadd : (⟨b, off, none⟩ : Addr).add j = ⟨b, off + j, none⟩ := by unfold Addr.add; split <;> simp_all
        rw [hadd]
        exact h5 j u hj) (hE.flat_one l2)
      (by unfold maxLen; omega) (by
        have := hT.small
        have h6 : (l.length + l2.length) * B ≤ 100000000000 * 1000 := Nat.mul_le_mul hl this
        omega) hb
    obtain ⟨v', w', hr, h1, h3, h4⟩ := this
    exact ⟨v', w', hr, by unfold OwnK; rw [List.length_append, List.flatMap_append]; exact h1, h3, h4⟩
/-- What an append leaves of the world. -/
theorem OwnK.grown {w w' : World} {base : Nat} {v : Value} {l : List α} (h : OwnK enc E k w base v l) {S : Nat → Prop} {a : World} (hU : Upd S a w) (hg : w.grownBy w' v.ownBlock) (hb : a.heap.size ≤ base) : Upd S a w' :=
  hU.grown hg (fun g e => .inl (Nat.le_trans hb (h.ge g e.symm.symm).1))
end
/-- A literal slice of one. -/
theorem SlK.one {α : Type} {enc : α → List Value} {k : Nat} (_hE : EncK enc k) {w : World} {g : Nat} {x : α} {t : TypeId} (h : w.heap[g]? = some (.cells (enc x).toArray t (0, 0))) : SlK enc w (.slice (some ⟨g, 0, none⟩) 1 1) [x] := by
  refine .inr ⟨g, 0, 1, rfl, Nat.le_refl _, by unfold maxLen; omega, heap_lt h, fun j u hj => ?_⟩
  rw [cell_of_row w g _ _ _ _ h, Nat.zero_add, ← hj]
  simp
/-- append of one's own, as an operation (in a round or outside). -/
theorem wpList_app_k {α : Type} {enc : α → List Value} {k : Nat} {E : TypeId} {P : Program} {T : TypeId} {B : Nat} (hT : ElT P T E k B) (hE : EncK enc k) {ops : Array Oper} {rest : List Oper} {o : Oper} {a : Act} {w : World} {Q : Exit → Act → World → Prop} (hgd : o.guard = none) (d s : Operand) (ho : o.op = .call { callee := .builtin .append, args := #[d, s], argTypes := #[T, T] })
    (base : Nat) (v v2 : Value) (l l2 : List α) (hd : a.eval d = v) (hs : a.eval s = v2) (h : OwnK enc E k w base v l) (h2 : SlK enc w v2 l2) (hl : l.length + l2.length ≤ 100000000000) (hb : base ≤ w.heap.size)
    (hK : ∀ v' w', OwnK enc E k w' base v' (l ++ l2) → w.grownBy w' v.ownBlock → wpList P ops Q rest (a.put o.dst v') w') : wpList P ops Q (o :: rest) a w := by
  obtain ⟨v', w', hr, h1, h3, _⟩ := run_app_k hT hE o.type h h2 hl hb
  exact wpList_run hgd (exec_append ho hd hs hr) (hK v' w' h1 h3)
theorem wpListIn_app_k {α : Type} {enc : α → List Value} {k : Nat} {E : TypeId} {P : Program} {T : TypeId} {B : Nat} (hT : ElT P T E k B) (hE : EncK enc k) {F : Fence} {n : Nat} {ops : Array Oper} {rest : List Oper} {o : Oper} {a : Act} {w : World} {Q : Exit → Act → World → Prop} (hgd : o.guard = none) (d s : Operand) (ho : o.op = .call { callee := .builtin .append, args := #[d, s], argTypes := #[T, T] })
    (base : Nat) (v v2 : Value) (l l2 : List α) (hd : a.eval d = v) (hs : a.eval s = v2) (h : OwnK enc E k w base v l) (h2 : SlK enc w v2 l2) (hl : l.length + l2.length ≤ 100000000000) (hb : base ≤ w.heap.size)
    (hK : ∀ v' w', OwnK enc E k w' base v' (l ++ l2) → w.grownBy w' v.ownBlock → wpListIn F n P ops Q rest (a.put o.dst v') w') : wpListIn F n P ops Q (o :: rest) a w := by
  obtain ⟨v', w', hr, h1, h3, _⟩ := run_app_k hT hE o.type h h2 hl hb
  exact wpListIn_run hgd (fun c h => by rw [ho] at h; cases h) (about_builtin ho) (exec_append ho hd hs hr) (hK v' w' h1 h3)
theorem step_app_k {α : Type} {enc : α → List Value} {k : Nat} {E : TypeId} {P : Program} {T : TypeId} {B : Nat} (hT : ElT P T E k B) (hE : EncK enc k) {ops : Array Oper} {o : Oper} {a : Act} {w : World} {K : Act → World → Prop} {Q : Exit → Act → World → Prop} {X : Prop} (hgd : o.guard = none) (d s : Operand) (ho : o.op = .call { callee := .builtin .append, args := #[d, s], argTypes := #[T, T] })
    (base : Nat) (v v2 : Value) (l l2 : List α) (hd : a.eval d = v) (hs : a.eval s = v2) (h : OwnK enc E k w base v l) (h2 : SlK enc w v2 l2) (hl : l.length + l2.length ≤ 100000000000) (hb : base ≤ w.heap.size)
    (hK : ∀ v' w', OwnK enc E k w' base v' (l ++ l2) → w.grownBy w' v.ownBlock → K (a.put o.dst v') w') : if Region.wanted o (yielded ops a.tmps) = true then Oper.wp P o a w K Q else X := by
  obtain ⟨v', w', hr, h1, h3, _⟩ := run_app_k hT hE o.type h h2 hl hb
  exact step_run hgd (exec_append ho hd hs hr) (hK v' w' h1 h3)
end Go.Proofs.Ytoondlbagbgbmaa
