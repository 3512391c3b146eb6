/- Worlds that grew: cells and all that is old lie as they lay; what stands under it. -/
import Derived.Test.YtoondlbagbgbmaaRows
import Derived.Test.YtoondlbagbgbmaaBase
import Derived.Test.YtoondlbagbgbmaaOps
import Derived.Test.YtoondlbagbgbmaaSliceK
namespace Go.Proofs.Ytoondlbagbgbmaa
open Go.RowKit Go.Shelf

/-- From B on, what are no cells may have been turned; all else lies as it lay. -/
structure Grew (B : Nat) (W W' : World) : Prop where
  os : W'.os = W.os
  tape : W'.tape = W.tape
  output : W'.output = W.output
  size : W.heap.size ≤ W'.heap.size
  low : ∀ k, k < B → k < W.heap.size → W'.heap[k]? = W.heap[k]?
  cells : ∀ (k : Nat) (c : Array Value) (t : TypeId) (m : Nat × Nat), W.heap[k]? = some (.cells c t m) → W'.heap[k]? = some (.cells c t m)
theorem Grew.of_grown {B : Nat} {W W' : World} {row : Option Nat} (hg : W.grownBy W' row) (hr : ∀ r, row = some r → B ≤ r ∧ ∃ o : Obj, W.heap[r]? = some o ∧ o.isCells = false) : Grew B W W' :=
  ⟨hg.os, hg.tape, hg.output, hg.size, fun k hk hl => hg.block k hl (fun e => by have := (hr k e.symm).1; omega),
    fun k c t m h => (hg.block k (heap_lt h) (fun e => by obtain ⟨o, ho, hc⟩ := (hr k e.symm).2; rw [h] at ho; cases ho; cases hc)).trans h⟩
theorem Shut.grew {B : Nat} {W W' : World} (h : Shut B W W') : Grew B W W' :=
  ⟨h.os, h.tape, h.output, Nat.le_of_eq h.size.symm, fun k hk _ => h.low k hk, fun k _ _ _ ho => h.cells k _ ho rfl⟩
theorem Upd.grewNo {B : Nat} {W W' : World} (h : Upd No W W') : Grew B W W' :=
  ⟨h.os, h.tape, h.output, h.size, fun k _ hl => h.block k hl (fun e => e), fun _ _ _ _ ho => h.at ho (fun e => e)⟩
theorem ownFrom_grew {β : Type} {B : Nat} {I : β → World → Prop} (h : ∀ s W W', Grew B W W' → I s W → I s W') : OwnFrom B I :=
  fun s W W' _ hs hg hr => h s W W' (Grew.of_grown hg hr) hs
theorem Grew.upd {B : Nat} {S : Nat → Prop} {w W W' : World} (h : Grew B W W') (k : Upd S w W) (hB : w.heap.size ≤ B) : Upd S w W' :=
  ⟨h.os.trans k.os, h.tape.trans k.tape, h.output.trans k.output, Nat.le_trans k.size h.size, fun i hi hs => (h.low i (by omega) (Nat.lt_of_lt_of_le hi k.size)).trans (k.block i hi hs)⟩
theorem Grew.at {B : Nat} {W W' : World} (h : Grew B W W') {k : Nat} {c : Array Value} {t : TypeId} {m : Nat × Nat} (hk : W.heap[k]? = some (.cells c t m)) : W'.heap[k]? = some (.cells c t m) := h.cells k c t m hk
theorem Grew.cell {B : Nat} {W W' : World} (h : Grew B W W') {a : Addr} {v : Value} (hk : W.cell? a = some v) : W'.cell? a = some v := by
  obtain ⟨o, ho, hc⟩ := cells_of_cell hk
  cases o with
  | cells c t m => exact (World.cell?_of_block ((h.at ho).trans ho.symm)).trans hk
  | _ => cases hc
section
variable {α : Type} {enc : α → List Value} {k : Nat} {E : TypeId}
theorem Grew.own {B : Nat} {W W' : World} (h : Grew B W W') {base : Nat} {v : Value} {l : List α} (ho : OwnK enc E k W base v l) : OwnK enc E k W' base v l := ho.keepObj (fun _ _ _ hc => h.at hc)
theorem Grew.sl {B : Nat} {W W' : World} (h : Grew B W W') {v : Value} {l : List α} (hs : SlK enc W v l) : SlK enc W' v l := by
  rcases hs with hs | ⟨b, off, cap, rfl, h1, h2, h3, h4⟩
  · exact .inl hs
  · exact .inr ⟨b, off, cap, rfl, h1, h2, Nat.lt_of_lt_of_le h3 h.size, fun j u hj => h.cell (h4 j u hj)⟩
end
end Go.Proofs.Ytoondlbagbgbmaa
