/- What a row's step hands to a walk: slices of structs. -/
import Derived.Test.YtoondlbagbgbmaaRows
import Derived.Test.YtoondlbagbgbmaaBase
import Derived.Test.YtoondlbagbgbmaaProbe
import Derived.Test.YtoondlbagbgbmaaOps
import Derived.Test.YtoondlbagbgbmaaSliceK
import Derived.Test.YtoondlbagbgbmaaLaw9
import Derived.Deep.Slices
import Derived.WalkKit
import Derived.ProofKit
import Derived.ChangeSlices
import Derived.OpenShut
namespace Go.Proofs.Ytoondlbagbgbmaa
open Go.ChangeShapes Go.WideShapes Go.ChangeAt Go.RowKit Go.Shelf Go.Proofs.Tab

/-- A slice that came in: what it holds; an empty one may lie anywhere. -/
def ArgK {α : Type} (encE : α → List Value) (w : World) (v : Value) (l : List α) : Prop := SlK encE w v l ∨ ∃ x cap, v = .slice (some x) 0 cap ∧ l = []
theorem ArgK.shape {α : Type} {encE : α → List Value} {w : World} {v : Value} {l : List α} (h : ArgK encE w v l) : ∃ a c, v = .slice a l.length c := by
  rcases h with h | ⟨x, cap, rfl, rfl⟩
  · obtain ⟨a, c, h, _⟩ := h.shape
    exact ⟨a, c, h⟩
  · exact ⟨_, cap, rfl⟩
theorem ArgK.no {α : Type} {encE : α → List Value} {w w' : World} {v : Value} {l : List α} (h : ArgK encE w v l) (hU : Upd No w w') : ArgK encE w' v l := by
  rcases h with h | h
  · exact .inl (h.no hU)
  · exact .inr h
/-- What is known of one that is not empty. -/
theorem ArgK.known {α : Type} {encE : α → List Value} {k : Nat} (hE : EncK encE k) {w : World} {v : Value} {l : List α} (h : ArgK encE w v l) (h0 : l ≠ []) : ∃ b off cap, v = .slice (some ⟨b, off, none⟩) l.length cap ∧ l.length ≤ cap ∧ cap ≤ maxLen ∧ b < w.heap.size ∧ ∀ i x, l[i]? = some x → ∀ j, j < k → w.cell? ⟨b, off + i * k + j, none⟩ = (encE x)[j]? := by
  rcases h with h | ⟨x, cap, _, rfl⟩
  · have hp := List.length_pos_iff.2 h0
    obtain ⟨b, off, cap, rfl, h1, h2, h3, _⟩ := h.known hE (i := 0) (x := l[0]) (List.getElem?_eq_getElem _)
    exact ⟨b, off, cap, rfl, h1, h2, h3, (h.at hE).2.2.2.2⟩
  · exact absurd rfl h0
section
variable {H : Type} {enc : TypeId × Value → H} {W : World} {sp : Nat → Bool}
theorem argk_of_trod {α : Type} [Inhabited α] {encE : α → List Value} {k : Nat} (hE : EncK encE k) (hk0 : 0 < k) {P : Program} {T E : TypeId} (hu : P.underlying T = some (.slice E)) (hk : P.cellsOf E = k)
    (hel : ∀ n cs y, cs.length = k → DataW.trod enc P W 0 sp true n E cs = some y → ∃ x : α, cs = encE x)
    (hsp : ∀ b, sp b = true) {v : Value} {d : DataW H} {p : List MemPlace} (hv : ∃ a n c, v = .slice a n c) (h : DataW.Trod enc P W 0 sp true T v d p) : ∃ (u : Value) (l : List α), v = u ∧ ArgK encE W u l := by
  obtain ⟨fuel, hf⟩ := h
  refine ⟨v, ?_⟩
  obtain ⟨a0, n0, c0, rfl⟩ := hv
  simp only [Value.cells] at hf
  rcases Deep.open_slice hu hf with ⟨hcs, _⟩ | ⟨a, len, cap, m, n, D, Pl, hcs, _, hl, hm, hmm, _, hx⟩
  · simp at hcs
    obtain ⟨rfl, rfl, rfl⟩ := hcs
    exact ⟨[], rfl, .inl (.inl ⟨rfl, rfl⟩)⟩
  · simp at hcs
    obtain ⟨rfl, rfl, rfl⟩ := hcs
    rw [hsp, if_pos rfl] at hmm
    subst hmm
    by_cases h0 : n0 = 0
    · subst h0
      exact ⟨[], rfl, .inr ⟨a, m, rfl, rfl⟩⟩
    · have each : ∀ i, ∃ e : α, i < m → ∃ cs', cs' = encE e ∧ (∀ j, j < k → W.cell? ((a.add (i * k)).add j) = cs'[j]?) := by
        intro i
        by_cases hi : i < m
        · obtain ⟨cs', h1, h2⟩ := hx i hi
          rw [hk] at h1
          obtain ⟨_, h3, h4⟩ := World.cells?_some h1
          obtain ⟨x, hxx⟩ := hel n cs' _ h3 h2
          exact ⟨x, fun _ => ⟨cs', hxx, h4⟩⟩
        · exact ⟨default, fun h => absurd h hi⟩
      obtain ⟨f, hf2⟩ := Classical.axiomOfChoice each
      have hc0 : ∀ i, i < m → ∀ j, j < k → W.cell? ((a.add (i * k)).add j) = (encE (f i))[j]? := fun i hi j hj => by
        obtain ⟨cs', h1, h2⟩ := hf2 i hi
        rw [h2 j hj, h1]
      have hk1 : 0 < (encE (f 0)).length := by rw [hE.len]; exact hk0
      have hz := hc0 0 (by omega) 0 hk0
      rw [List.getElem?_eq_getElem hk1] at hz
      have hs : a.spot = none := by
        have := World.cell?_spot hz
        simpa [Addr.add] using this
      have hblk : a.block < W.heap.size := by
        have := World.block_lt_of_cell? W _ hz
        simpa [Addr.add] using this
      obtain ⟨b, off, s⟩ := a
      simp only at hs hblk
      subst hs
      have hadd : ∀ (o j : Nat), (⟨b, o, none⟩ : Addr).add j = ⟨b, o + j, none⟩ := fun o j => by unfold Addr.add; split <;> simp_all
      have hll : ((List.range n0).map f).length = n0 := by simp
      refine ⟨(List.range n0).map f, rfl, .inl (.inr ⟨b, off, m, by rw [hll], by rw [hll]; exact hl, hm, hblk, fun j u hj => ?_⟩)⟩
      have hjl : j < n0 * k := by
        have := (List.getElem?_eq_some_iff.1 hj).1
        rwa [hE.flat_length, hll] at this
      have h1 : j / k < n0 := Nat.div_lt_of_lt_mul (by rw [Nat.mul_comm]; exact hjl)
      have h2 : j % k < k := Nat.mod_lt _ hk0
      have h3 := hE.flat_get ((List.range n0).map f) (j / k) (j % k) h2
      rw [Nat.mul_comm, Nat.div_add_mod, hj] at h3
      have h4 : ((List.range n0).map f)[j / k]? = some (f (j / k)) := by simp [h1]
      rw [h4, Option.bind_some] at h3
      have h5 := hc0 (j / k) (by omega) (j % k) h2
      rw [hadd, hadd, ← h3] at h5
      rw [← h5]
      congr 2
      rw [Nat.add_assoc, Nat.mul_comm, Nat.div_add_mod]
end
theorem cK : Try.prog.cellsOf 29 = 3 := by kernel_rfl
theorem cI : Try.prog.cellsOf 3 = 1 := by kernel_rfl
section
variable {H : Type} {enc : TypeId × Value → H} {W : World} {sp : Nat → Bool}
theorem key_of_cells {n : Nat} {cs : List Value} {y : DataW H × List MemPlace} (hl : cs.length = 3) (h : DataW.trod enc Try.prog W 0 sp true n 29 cs = some y) : ∃ k : Key, cs = [.int .i64 k.1, .int .i64 k.2.1, .int .i64 k.2.2] := by
  match cs, hl with
  | [x0, x1, x2], _ =>
    obtain ⟨xs, n, _, _, hl, hlen, hg⟩ := DataW.trod_struct Try.underlying29 h
    match xs, hlen with
    | [y0, y1, y2], _ =>
      have t0 := hg 0 _ rfl
      have t1 := hg 1 _ rfl
      have t2 := hg 2 _ rfl
      simp [cI] at t0 t1 t2
      obtain ⟨k0, h0, _, _⟩ := DataW.trod_int Try.underlying3 t0
      obtain ⟨k1, h1, _, _⟩ := DataW.trod_int Try.underlying3 t1
      obtain ⟨k2, h2, _, _⟩ := DataW.trod_int Try.underlying3 t2
      simp at h0 h1 h2
      exact ⟨(k0, k1, k2), by rw [h0, h1, h2]⟩
theorem op_of_cells {n : Nat} {cs : List Value} {y : DataW H × List MemPlace} (hl : cs.length = 4) (h : DataW.trod enc Try.prog W 0 sp true n 31 cs = some y) : ∃ e : Ent, cs = entE e := by
  match cs, hl with
  | [x0, x1, x2, x3], _ =>
    obtain ⟨xs, n, _, _, hl, hlen, hg⟩ := DataW.trod_struct Try.underlying31 h
    match xs, hlen with
    | [y0, y1], _ =>
      have t0 := hg 0 _ rfl
      have t1 := hg 1 _ rfl
      simp [cI, cK] at t0 t1
      obtain ⟨k, hk⟩ := key_of_cells rfl t0
      obtain ⟨m, h1, _, _⟩ := DataW.trod_int Try.underlying3 t1
      simp at hk h1
      obtain ⟨h2, h3, h4⟩ := hk
      exact ⟨(k, m), by rw [h1, h2, h3, h4]; rfl⟩
theorem ops_of_trod (hsp : ∀ b, sp b = true) {base : Nat} {v : Value} {d : DataW H} {p : List MemPlace} (hval : Value.okWide Try.prog W .any base 22 v) (h : DataW.Trod enc Try.prog W 0 sp true 22 v d p) : ∃ (u : Value) (l : List Ent), v = u ∧ ArgK entE W u l :=
  argk_of_trod entEnc (by omega) Try.underlying22 (by kernel_rfl) (fun n cs y hl h => op_of_cells hl h) hsp (okWide_slice Try.underlying22 hval) h
theorem key_of_trod (_hsp : ∀ b, sp b = true) {base : Nat} {v : Value} {d : DataW H} {p : List MemPlace} (hval : Value.okWide Try.prog W .any base 29 v) (h : DataW.Trod enc Try.prog W 0 sp true 29 v d p) : ∃ (k : Key), v = .agg #[.int .i64 k.1, .int .i64 k.2.1, .int .i64 k.2.2] ∧ True := by
  obtain ⟨cs, rfl, hs⟩ := okWide_struct Try.underlying29 hval
  obtain ⟨fuel, hf⟩ := h
  rw [cK] at hs
  obtain ⟨k, hk⟩ := key_of_cells (cs := cs.toList) (by simpa using hs) (by simpa [Value.cells] using hf)
  exact ⟨k, by rw [← Array.toArray_toList (xs := cs), hk], trivial⟩
end
end Go.Proofs.Ytoondlbagbgbmaa
