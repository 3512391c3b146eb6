/- conns: a table's cells in memory. -/
import Derived.Test.YtoondlbagbgbmaaRows
import Derived.Test.YtoondlbagbgbmaaBase
import Derived.Test.YtoondlbagbgbmaaProbe
import Derived.Test.YtoondlbagbgbmaaHome
namespace Go.Proofs.Ytoondlbagbgbmaa
open Go.RowKit Go.Shelf Go.Proofs.Tab

abbrev i64V (n : Int) : Value := .int .i64 n
/-- A slot's cells. -/
def slotCells : Option Ent → List Value
  | none => [i64V 0, i64V 0, i64V 0, i64V 0, .bool false]
  | some (k, n) => [i64V k.1, i64V k.2.1, i64V k.2.2, i64V n, .bool true]
theorem slotCells_length (o : Option Ent) : (slotCells o).length = 5 := by cases o <;> rfl
def tabList (S : Nat → Option Ent) (len room : Int) : List Value := (List.range 128).flatMap (fun i => slotCells (S i)) ++ [i64V len, i64V room]
def tabRow (S : Nat → Option Ent) (len room : Int) : Array Value := (tabList S len room).toArray

theorem flat_length {α : Type} (f : α → List Value) (hf : ∀ x, (f x).length = 5) : ∀ l : List α, (l.flatMap f).length = 5 * l.length
  | [] => rfl
  | a :: l => by simp [List.flatMap_cons, hf, flat_length f hf l]; omega
theorem flat_get {α : Type} (f : α → List Value) (hf : ∀ x, (f x).length = 5) : ∀ (l : List α) (i j : Nat), j < 5 → (l.flatMap f)[5 * i + j]? = (l[i]?).bind fun x => (f x)[j]?
  | [], i, j, _ => by simp
  | a :: l, i, j, hj => by
    rw [List.flatMap_cons]
    cases i with
    | zero => rw [List.getElem?_append_left (by rw [hf]; omega)]; simp
    | succ i =>
      rw [List.getElem?_append_right (by rw [hf]; omega), hf]
      have := flat_get f hf l i j hj
      rw [show 5 * (i + 1) + j - 5 = 5 * i + j from by omega, this]
      simp
theorem tabList_length (S : Nat → Option Ent) (len room : Int) : (tabList S len room).length = 642 := by
  unfold tabList
  rw [List.length_append, flat_length _ (fun i => slotCells_length _), List.length_range]
  rfl
theorem tabList_slot (S : Nat → Option Ent) (len room : Int) (i j : Nat) (hi : i < 128) (hj : j < 5) : (tabList S len room)[5 * i + j]? = (slotCells (S i))[j]? := by
  unfold tabList
  rw [List.getElem?_append_left (by rw [flat_length _ (fun i => slotCells_length _), List.length_range]; omega), flat_get _ (fun i => slotCells_length _) _ _ _ hj]
  simp [hi]
theorem tabList_end (S : Nat → Option Ent) (len room : Int) (j : Nat) : (tabList S len room)[640 + j]? = [i64V len, i64V room][j]? := by
  unfold tabList
  have h := flat_length (fun i => slotCells (S i)) (fun i => slotCells_length _) (List.range 128)
  rw [List.length_range] at h
  have h0 : ∀ l : List Value, l.length = 5 * 128 → (l ++ [i64V len, i64V room])[640 + j]? = [i64V len, i64V room][j]? := fun l hl => by
    rw [List.getElem?_append_right (by omega), hl, show 640 + j - 5 * 128 = j from by omega]
  exact h0 _ h
theorem tab_size (S : Nat → Option Ent) (len room : Int) : (tabRow S len room).size = 642 := by simp [tabRow, tabList_length]
theorem tab_slot (S : Nat → Option Ent) (len room : Int) (i j : Nat) (hi : i < 128) (hj : j < 5) : (tabRow S len room)[5 * i + j]? = (slotCells (S i))[j]? := by
  simp only [tabRow, List.getElem?_toArray]
  exact tabList_slot S len room i j hi hj
theorem tab_end (S : Nat → Option Ent) (len room : Int) (j : Nat) : (tabRow S len room)[640 + j]? = [i64V len, i64V room][j]? := by
  simp only [tabRow, List.getElem?_toArray]
  exact tabList_end S len room j
/-- Two rows of this form are one, if slot by slot they are. -/
theorem tab_ext {c : List Value} {S : Nat → Option Ent} {len room : Int} (hc : c.length = 642) (hs : ∀ i j, i < 128 → j < 5 → c[5 * i + j]? = (slotCells (S i))[j]?) (he : c[640]? = some (i64V len)) (he2 : c[641]? = some (i64V room)) : c.toArray = tabRow S len room := by
  unfold tabRow
  congr 1
  apply List.ext_getElem?
  intro m
  by_cases hm : m < 640
  · have h : m = 5 * (m / 5) + m % 5 := by omega
    rw [h, hs _ _ (by omega) (by omega), tabList_slot _ _ _ _ _ (by omega) (by omega)]
  · by_cases h0 : m = 640
    · subst h0; rw [he, tabList_end S len room 0]; rfl
    · by_cases h1 : m = 641
      · subst h1; rw [he2, tabList_end S len room 1]; rfl
      · rw [List.getElem?_eq_none (by omega), List.getElem?_eq_none (by rw [tabList_length]; omega)]
/-- A slot is written. -/
theorem tab_put (S : Nat → Option Ent) (len room : Int) (i : Nat) (hi : i < 128) (v : Option Ent) : ((tabRow S len room).toList.take (5 * i) ++ slotCells v ++ (tabRow S len room).toList.drop (5 * i + 5)).toArray = tabRow (put S i v) len room := by
  have hl : (tabRow S len room).toList = tabList S len room := by simp [tabRow]
  have hlen := tabList_length S len room
  rw [hl]
  have h1 : ((tabList S len room).take (5 * i)).length = 5 * i := by rw [List.length_take]; omega
  have hend : ∀ m, 5 * i + 5 ≤ m → ((tabList S len room).take (5 * i) ++ slotCells v ++ (tabList S len room).drop (5 * i + 5))[m]? = (tabList S len room)[m]? := fun m hm => by
    rw [List.getElem?_append_right (by rw [List.length_append, h1, slotCells_length]; exact hm), List.getElem?_drop, List.length_append, h1, slotCells_length]
    congr 1
    omega
  refine tab_ext ?_ (fun a j ha hj => ?_) ?_ ?_
  · rw [List.length_append, List.length_append, h1, slotCells_length, List.length_drop, hlen]; omega
  · by_cases hai : a = i
    · subst hai
      rw [put_same, List.getElem?_append_left (by rw [List.length_append, h1, slotCells_length]; omega), List.getElem?_append_right (by omega), h1]
      congr 1
      omega
    · rw [put_other hai, ← tabList_slot S len room a j ha hj]
      rcases Nat.lt_or_ge a i with h | h
      · rw [List.append_assoc, List.getElem?_append_left (by rw [h1]; omega), List.getElem?_take_of_lt (by omega)]
      · exact hend _ (by omega)
  · rw [hend _ (by omega)]; exact tabList_end S len room 0
  · rw [hend _ (by omega)]; exact tabList_end S len room 1
theorem tab_len (S : Nat → Option Ent) (len room len' : Int) : (tabRow S len room).setIfInBounds 640 (i64V len') = tabRow S len' room := by
  have h : (tabRow S len room).setIfInBounds 640 (i64V len') = ((tabList S len room).set 640 (i64V len')).toArray := by simp [tabRow]
  rw [h]
  have hlen := tabList_length S len room
  refine tab_ext (by rw [List.length_set]; exact hlen) (fun a j ha hj => ?_) ?_ ?_
  · rw [List.getElem?_set_ne (by omega)]; exact tabList_slot S len room a j ha hj
  · rw [List.getElem?_set_self (by omega)]
  · rw [List.getElem?_set_ne (by omega)]; exact tabList_end S len room 1
theorem tab_room (S : Nat → Option Ent) (len room room' : Int) : (tabRow S len room).setIfInBounds 641 (i64V room') = tabRow S len room' := by
  have h : (tabRow S len room).setIfInBounds 641 (i64V room') = ((tabList S len room).set 641 (i64V room')).toArray := by simp [tabRow]
  rw [h]
  have hlen := tabList_length S len room
  refine tab_ext (by rw [List.length_set]; exact hlen) (fun a j ha hj => ?_) ?_ ?_
  · rw [List.getElem?_set_ne (by omega)]; exact tabList_slot S len room a j ha hj
  · rw [List.getElem?_set_ne (by omega)]; exact tabList_end S len room 0
  · rw [List.getElem?_set_self (by omega)]
theorem block_new2 (w : World) (a b : Obj) : ((w.alloc a).alloc b).heap[w.heap.size + 1]? = some b := by
  have := block_new (w.alloc a) b
  rwa [World.size_alloc] at this
theorem Upd.set5 {S : Nat → Prop} {a w : World} (h : Upd S a w) {g o0 o1 o2 o3 o4 : Nat} (hg : a.heap.size ≤ g ∨ S g) (v0 v1 v2 v3 v4 : Value) :
    Upd S a (((((w.setCell ⟨g, o0, none⟩ v0).setCell ⟨g, o1, none⟩ v1).setCell ⟨g, o2, none⟩ v2).setCell ⟨g, o3, none⟩ v3).setCell ⟨g, o4, none⟩ v4) :=
  ((((h.setCell (p := ⟨g, o0, none⟩) hg v0).setCell (p := ⟨g, o1, none⟩) hg v1).setCell (p := ⟨g, o2, none⟩) hg v2).setCell (p := ⟨g, o3, none⟩) hg v3).setCell (p := ⟨g, o4, none⟩) hg v4
theorem tab_set5 (S : Nat → Option Ent) (len room : Int) (i : Nat) (hi : i < 128) (v : Option Ent) (v0 v1 v2 v3 v4 : Value) (hv : slotCells v = [v0, v1, v2, v3, v4]) :
    (((((tabRow S len room).setIfInBounds (i * 5) v0).setIfInBounds (i * 5 + 1) v1).setIfInBounds (i * 5 + 2) v2).setIfInBounds (i * 5 + 3) v3).setIfInBounds (i * 5 + 4) v4 = tabRow (put S i v) len room := by
  have h : (((((tabRow S len room).setIfInBounds (i * 5) v0).setIfInBounds (i * 5 + 1) v1).setIfInBounds (i * 5 + 2) v2).setIfInBounds (i * 5 + 3) v3).setIfInBounds (i * 5 + 4) v4 =
      ((((((tabList S len room).set (i * 5) v0).set (i * 5 + 1) v1).set (i * 5 + 2) v2).set (i * 5 + 3) v3).set (i * 5 + 4) v4).toArray := by simp [tabRow]
  rw [h]
  have hlen := tabList_length S len room
  have hfar : ∀ m, (m < i * 5 ∨ i * 5 + 5 ≤ m) → ((((((tabList S len room).set (i * 5) v0).set (i * 5 + 1) v1).set (i * 5 + 2) v2).set (i * 5 + 3) v3).set (i * 5 + 4) v4)[m]? = (tabList S len room)[m]? := fun m hm => by
    rw [List.getElem?_set_ne (by omega), List.getElem?_set_ne (by omega), List.getElem?_set_ne (by omega), List.getElem?_set_ne (by omega), List.getElem?_set_ne (by omega)]
  refine tab_ext (by simp [hlen]) (fun a j ha hj => ?_) ?_ ?_
  · by_cases hai : a = i
    · subst hai
      rw [put_same, hv, Nat.mul_comm 5 a]
      rcases j with _ | _ | _ | _ | _ | j
      · rw [List.getElem?_set_ne (by omega), List.getElem?_set_ne (by omega), List.getElem?_set_ne (by omega), List.getElem?_set_ne (by omega), Nat.add_zero, List.getElem?_set_self (by omega)]; rfl
      · rw [List.getElem?_set_ne (by omega), List.getElem?_set_ne (by omega), List.getElem?_set_ne (by omega), List.getElem?_set_self (by simp only [List.length_set]; omega)]; rfl
      · rw [List.getElem?_set_ne (by omega), List.getElem?_set_ne (by omega), List.getElem?_set_self (by simp only [List.length_set]; omega)]; rfl
      · rw [List.getElem?_set_ne (by omega), List.getElem?_set_self (by simp only [List.length_set]; omega)]; rfl
      · rw [List.getElem?_set_self (by simp only [List.length_set]; omega)]; rfl
      · omega
    · rw [put_other hai, hfar _ (by omega)]
      exact tabList_slot S len room a j ha hj
  · rw [hfar _ (by omega)]; exact tabList_end S len room 0
  · rw [hfar _ (by omega)]; exact tabList_end S len room 1
/-- A table's block. -/
def TabAt (w : World) (b : Nat) (S : Nat → Option Ent) (len room : Int) : Prop := w.heap[b]? = some (.cells (tabRow S len room) 59 (0, 0))
theorem TabAt.upd {P : Nat → Prop} {w w' : World} {b : Nat} {S : Nat → Option Ent} {len room : Int} (h : TabAt w b S len room) (hU : Upd P w w') (hb : ¬ P b) : TabAt w' b S len room := hU.at h hb
theorem TabAt.alloc {w : World} {b : Nat} {S : Nat → Option Ent} {len room : Int} (h : TabAt w b S len room) (o : Obj) : TabAt (w.alloc o) b S len room := block_old h o
theorem TabAt.drew {w : World} {b : Nat} {S : Nat → Option Ent} {len room : Int} (h : TabAt w b S len room) : TabAt w.drew b S len room := h
theorem TabAt.lt {w : World} {b : Nat} {S : Nat → Option Ent} {len room : Int} (h : TabAt w b S len room) : b < w.heap.size := heap_lt h
theorem TabAt.free {w : World} {b : Nat} {S : Nat → Option Ent} {len room : Int} (h : TabAt w b S len room) (j : Nat) : w.frozen? ⟨b, j, none⟩ = false := (cells_at h).2 j
theorem TabAt.cell {w : World} {b : Nat} {S : Nat → Option Ent} {len room : Int} (h : TabAt w b S len room) (i j : Nat) (hi : i < 128) (hj : j < 5) : w.cell? ⟨b, 5 * i + j, none⟩ = (slotCells (S i))[j]? := by
  rw [(cells_at h).1, tab_slot _ _ _ _ _ hi hj]
theorem TabAt.atNone {w : World} {b : Nat} {S : Nat → Option Ent} {len room : Int} (h : TabAt w b S len room) {i : Nat} (hi : i < 128) (hs : S i = none) :
    w.cell? ⟨b, i * 5, none⟩ = some (.int .i64 0) ∧ w.cell? ⟨b, i * 5 + 1, none⟩ = some (.int .i64 0) ∧ w.cell? ⟨b, i * 5 + 2, none⟩ = some (.int .i64 0) ∧ w.cell? ⟨b, i * 5 + 3, none⟩ = some (.int .i64 0) ∧ w.cell? ⟨b, i * 5 + 4, none⟩ = some (.bool false) := by
  have h0 := h.cell i 0 hi (by omega)
  have h1 := h.cell i 1 hi (by omega)
  have h2 := h.cell i 2 hi (by omega)
  have h3 := h.cell i 3 hi (by omega)
  have h4 := h.cell i 4 hi (by omega)
  rw [hs, Nat.mul_comm 5 i] at h0 h1 h2 h3 h4
  exact ⟨h0, h1, h2, h3, h4⟩
theorem TabAt.atSome {w : World} {b : Nat} {S : Nat → Option Ent} {len room : Int} (h : TabAt w b S len room) {i : Nat} (hi : i < 128) {k : Key} {n : Int} (hs : S i = some (k, n)) :
    w.cell? ⟨b, i * 5, none⟩ = some (.int .i64 k.1) ∧ w.cell? ⟨b, i * 5 + 1, none⟩ = some (.int .i64 k.2.1) ∧ w.cell? ⟨b, i * 5 + 2, none⟩ = some (.int .i64 k.2.2) ∧ w.cell? ⟨b, i * 5 + 3, none⟩ = some (.int .i64 n) ∧ w.cell? ⟨b, i * 5 + 4, none⟩ = some (.bool true) := by
  have h0 := h.cell i 0 hi (by omega)
  have h1 := h.cell i 1 hi (by omega)
  have h2 := h.cell i 2 hi (by omega)
  have h3 := h.cell i 3 hi (by omega)
  have h4 := h.cell i 4 hi (by omega)
  rw [hs, Nat.mul_comm 5 i] at h0 h1 h2 h3 h4
  exact ⟨h0, h1, h2, h3, h4⟩
theorem TabAt.len {w : World} {b : Nat} {S : Nat → Option Ent} {len room : Int} (h : TabAt w b S len room) : w.cell? ⟨b, 640, none⟩ = some (.int .i64 len) := by
  rw [(cells_at h).1, tab_end S len room 0]; rfl
theorem TabAt.room {w : World} {b : Nat} {S : Nat → Option Ent} {len room : Int} (h : TabAt w b S len room) : w.cell? ⟨b, 641, none⟩ = some (.int .i64 room) := by
  rw [(cells_at h).1, tab_end S len room 1]; rfl
theorem TabAt.set5 {w : World} {b : Nat} {S : Nat → Option Ent} {len room : Int} (h : TabAt w b S len room) {i : Nat} (hi : i < 128) (v : Option Ent) {v0 v1 v2 v3 v4 : Value} (hv : slotCells v = [v0, v1, v2, v3, v4]) :
    TabAt (((((w.setCell ⟨b, i * 5, none⟩ v0).setCell ⟨b, i * 5 + 1, none⟩ v1).setCell ⟨b, i * 5 + 2, none⟩ v2).setCell ⟨b, i * 5 + 3, none⟩ v3).setCell ⟨b, i * 5 + 4, none⟩ v4) b (put S i v) len room := by
  unfold TabAt
  rw [← tab_set5 S len room i hi v v0 v1 v2 v3 v4 hv]
  exact block_set (block_set (block_set (block_set (block_set h v0) v1) v2) v3) v4
theorem TabAt.setLen {w : World} {b : Nat} {S : Nat → Option Ent} {len room : Int} (h : TabAt w b S len room) (len' : Int) : TabAt (w.setCell ⟨b, 640, none⟩ (.int .i64 len')) b S len' room := by
  unfold TabAt
  rw [← tab_len S len room len']
  exact block_set h _
end Go.Proofs.Ytoondlbagbgbmaa
