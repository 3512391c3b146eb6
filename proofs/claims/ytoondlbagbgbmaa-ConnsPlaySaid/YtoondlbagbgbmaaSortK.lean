/- slices.SortFunc at slices of one's own: the bridge between the library's words and these texts'. -/
import Derived.Test.YtoondlbagbgbmaaRows
import Derived.Test.YtoondlbagbgbmaaBase
import Derived.Test.YtoondlbagbgbmaaOps
import Derived.Test.YtoondlbagbgbmaaSliceK
import Derived.Shelf.SlSortCmp.WholeK
namespace Go.Proofs.Ytoondlbagbgbmaa
open Go.RowKit Go.Shelf Go.Sort

theorem grow_of_upd {w w' : World} (h : Upd No w w') (hd : w.drawn ≤ w'.drawn) : ∃ q os', w' = grow (w.drewN q) os' := by
  refine ⟨w'.drawn - w.drawn, w'.heap.extract w.heap.size w'.heap.size, ?_⟩
  obtain ⟨hp, tp, dr, os, out⟩ := w'
  obtain ⟨h1, h2, h3, h4, h5⟩ := h
  simp only at h1 h2 h3 h4 h5 hd
  subst h1 h2 h3
  unfold grow World.drewN
  simp only [World.mk.injEq, and_true, true_and]
  refine ⟨?_, by omega⟩
  apply Array.ext_getElem?
  intro i
  by_cases hi : i < w.heap.size
  · rw [h5 i hi (fun e => e), Array.getElem?_append_left hi]
  · rw [Array.getElem?_append_right (by omega), Array.getElem?_extract]
    by_cases hj : i < hp.size
    · rw [if_pos (by omega)]
      congr 1
      omega
    · rw [if_neg (by omega), Array.getElem?_eq_none (by omega)]
section
variable {α : Type} [Inhabited α] {enc : α → List Value} {k : Nat} {E : TypeId}
theorem cmpLays_of {P : Program} {g : Nat} {cb : Array Value} {cf : α → α → Int} (h : ∀ x y W, Calls P g (#[.agg (enc x).toArray, .agg (enc y).toArray] ++ cb) W fun e w' => e = .returned (.int .i64 (cf x y)) ∧ Upd No W w' ∧ W.drawn ≤ w'.drawn) (blk off size : Nat) (w : World) : CmpLays P g cb enc k cf blk off size w := by
  intro m os dk _ x y
  refine (h x y _).mono ?_
  rintro e w' ⟨he, hU, hd⟩
  exact ⟨he, grow_of_upd hU hd⟩
theorem flatK_list (hE : EncK enc k) (hk : 0 < k) (l : List α) : (flatK enc k l.toArray).toList = l.flatMap enc := by
  apply List.ext_getElem?
  intro j
  by_cases hj : j < l.length * k
  · have h1 : j / k < l.length := Nat.div_lt_of_lt_mul (by rw [Nat.mul_comm]; exact hj)
    have h2 : j % k < k := Nat.mod_lt _ hk
    have h3 := hE.flat_get l (j / k) (j % k) h2
    rw [Nat.mul_comm, Nat.div_add_mod] at h3
    rw [h3, List.getElem?_eq_getElem h1, Option.bind_some]
    have h4 : j % k < (enc l[j / k]).length := by rw [hE.len]; exact h2
    have hs : j < (flatK enc k l.toArray).size := by rw [size_flatK]; simpa using hj
    have h5 := get_flatK enc k l.toArray j (by simpa using hj)
    rw [Array.getElem?_toList, Array.getElem?_eq_getElem hs, List.getElem?_eq_getElem h4]
    rw [getElem!_pos _ j hs, getElem!_pos l.toArray (j / k) (by simpa using h1)] at h5
    rw [h5]
    simp only [List.getElem_toArray]
    rw [getElem!_pos (enc l[j / k]) (j % k) h4]
  · rw [List.getElem?_eq_none (by rw [Array.length_toList, size_flatK]; simp; omega), List.getElem?_eq_none (by rw [hE.flat_length]; omega)]
theorem OwnK.holds (hE : EncK enc k) (hk : 0 < k) {w : World} {base g n cap : Nat} {l : List α} (h : OwnK enc E k w base (.slice (some ⟨g, 0, none⟩) n cap) l) : HoldsK enc k w g 0 l.toArray ∧ g < w.heap.size ∧ n = l.length := by
  rcases h.2 with ⟨hh, _⟩ | ⟨g', cap', cur, hv, hb, hg, hn, hc, hs, ht⟩
  · cases hh
  · simp only [Value.slice.injEq, Option.some.injEq, Addr.mk.injEq, and_true] at hv
    obtain ⟨rfl, rfl, rfl⟩ := hv
    refine ⟨fun j hj => ?_, heap_lt hg, rfl⟩
    have hl := flatK_list hE hk l
    have hj2 : j < (flatK enc k l.toArray).toList.length := by simpa using hj
    have h1 : cur.toList[j]? = some (flatK enc k l.toArray)[j]! := by
      have h2 : (cur.toList.take (l.length * k))[j]? = (l.flatMap enc)[j]? := by rw [ht]
      rw [size_flatK] at hj
      rw [List.getElem?_take_of_lt (by simpa using hj)] at h2
      rw [h2, ← hl, List.getElem?_eq_getElem hj2, getElem!_pos _ j (by simpa using hj2)]
      simp
    rw [Nat.zero_add, cell_of_row w g _ cur _ _ hg]
    rw [Array.getElem?_toList] at h1
    exact ⟨h1, frozen_of_row w g _ cur _ hg⟩
theorem sort_heap {w : World} {blk off m : Nat} {d : Array α} {os : Array Obj} (i : Nat) (hi : i < w.heap.size) : (sortWorldK enc k w blk off m d os).heap[i]? = if i = blk then (w.heap[i]?).map (onCells (putCells id off (flatK enc k d))) else w.heap[i]? := by
  have h : (sortWorldK enc k w blk off m d os).heap = w.heap.modify blk (onCells (putCells id off (flatK enc k d))) ++ os := rfl
  rw [h, Array.getElem?_append_left (by rw [Array.size_modify]; exact hi), Array.getElem?_modify]
  by_cases hb : i = blk
  · subst hb; simp
  · rw [if_neg (Ne.symm hb), if_neg hb]
theorem sort_upd (w : World) (blk off m : Nat) (d : Array α) (os : Array Obj) : Upd (One blk) w (sortWorldK enc k w blk off m d os) := by
  refine ⟨rfl, rfl, rfl, ?_, fun i hi hb => ?_⟩
  · have h : (sortWorldK enc k w blk off m d os).heap = w.heap.modify blk (onCells (putCells id off (flatK enc k d))) ++ os := rfl
    rw [h]; simp
  · rw [sort_heap i hi, if_neg (show ¬ i = blk from hb)]
theorem OwnK.sorted (hE : EncK enc k) (hk : 0 < k) {w : World} {base g n cap m : Nat} {l : List α} (h : OwnK enc E k w base (.slice (some ⟨g, 0, none⟩) n cap) l) {d : Array α} (hd : d.size = l.length) (os : Array Obj) : OwnK enc E k (sortWorldK enc k w g 0 m d os) base (.slice (some ⟨g, 0, none⟩) n cap) d.toList := by
  rcases h.2 with ⟨hh, _⟩ | ⟨g', cap', cur, hv, hb, hg, hn, hc, hs, ht⟩
  · cases hh
  · simp only [Value.slice.injEq, Option.some.injEq, Addr.mk.injEq, and_true] at hv
    obtain ⟨rfl, rfl, rfl⟩ := hv
    have hdl : d.toList.length = l.length := by simpa using hd
    refine ⟨hE.flat_length _, .inr ⟨g, cap, putCells id 0 (flatK enc k d) cur, by rw [hdl], hb, ?_, by rw [hdl]; exact hn, hc, by simp [putCells, hs], ?_⟩⟩
    · rw [sort_heap g (heap_lt hg), if_pos rfl, hg]; rfl
    · have hl := flatK_list hE hk d.toList
      rw [Array.toArray_toList] at hl
      rw [← hl, hdl]
      apply List.ext_getElem?
      intro j
      have hfs : (flatK enc k d).size = l.length * k := by rw [size_flatK, hd]
      by_cases hj : j < l.length * k
      · rw [List.getElem?_take_of_lt hj, Array.getElem?_toList, Array.getElem?_toList]
        have hcur : j < cur.size := by rw [hs]; exact Nat.lt_of_lt_of_le hj (Nat.mul_le_mul_right k hn)
        unfold putCells
        rw [Array.getElem?_mapIdx, Array.getElem?_eq_getElem hcur, Option.map_some, if_pos ⟨Nat.zero_le _, by omega⟩, Array.getElem?_eq_getElem (by omega)]
        simp only [id, Nat.sub_zero]
        rw [getElem!_pos _ j (by omega)]
      · rw [List.getElem?_eq_none (by rw [List.length_take]; omega), List.getElem?_eq_none (by rw [Array.length_toList]; omega)]
theorem perm_of {d d' : Array α} (h : PermIn 0 d.size d d') : d'.size = d.size ∧ d'.toList.Perm d.toList := by
  obtain ⟨h1, _, h3⟩ := h
  refine ⟨h1, ?_⟩
  have e1 : d'.extract 0 d.size = d' := by rw [← h1]; simp
  have e2 : d.extract 0 d.size = d := by simp
  rw [e1, e2] at h3
  exact h3
theorem sorted_of {lt : α → α → Bool} {d : Array α} {n : Nat} (hn : d.size = n) (h : SortedIn lt 0 n d) : d.toList.Pairwise fun a b => lt b a = false := by
  rw [List.pairwise_iff_getElem]
  intro i j hi hj hij
  have := h i j (Nat.zero_le _) hij (by rw [← hn]; simpa using hj)
  rw [getElem!_pos d i (by simpa using hi), getElem!_pos d j (by simpa using hj)] at this
  simpa using this
end
end Go.Proofs.Ytoondlbagbgbmaa
