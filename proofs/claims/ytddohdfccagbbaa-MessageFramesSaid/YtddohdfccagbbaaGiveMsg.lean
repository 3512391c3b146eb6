/- What the row of MessageFrames hands to its walk: a message that came in. -/
import Derived.Test.YtddohdfccagbbaaRows
import Derived.Test.YtddohdfccagbbaaBase
import Derived.Test.YtddohdfccagbbaaBytes
import Derived.Test.YtddohdfccagbbaaGive
import Derived.Test.YtddohdfccagbbaaElem
import Derived.Test.YtddohdfccagbbaaMsg
import Derived.Deep.SlicePairs
import Derived.WalkKit
import Derived.ProofKit
import Derived.ChangeSlices
import Derived.OpenShut
namespace Go.Proofs.Ytddohdfccagbbaa
open Go.ChangeShapes Go.WideShapes Go.ChangeAt Go.RowKit Go.Shelf

theorem c45 : Try.prog.cellsOf 45 = 4 := by kernel_rfl
theorem c61 : Try.prog.cellsOf 61 = 2 := by kernel_rfl
theorem c3 : Try.prog.cellsOf 3 = 1 := by kernel_rfl
theorem c4 : Try.prog.cellsOf 4 = 1 := by kernel_rfl
theorem c43 : Try.prog.cellsOf 43 = 1 := by kernel_rfl
theorem c5 : Try.prog.cellsOf 5 = 1 := by kernel_rfl
theorem c22 : Try.prog.cellsOf 22 = 1 := by kernel_rfl
section
variable {H : Type} {enc : TypeId × Value → H} {W : World} {sp : Nat → Bool}
theorem body_of_trod {n : Nat} {u : Value} {y : DataW H × List MemPlace} (hsp : ∀ b, sp b = true) (h : DataW.trod enc Try.prog W 0 sp true n 22 [u] = some y) : ∃ l, BytesE W u l := by
  rcases open_ints Try.underlying22 Try.underlying5 c5 h with ⟨hcs, _⟩ | ⟨x, len, cap, zs, hcs, _, hl, hm, hz, _, hcell, hwz⟩
  · simp at hcs
    exact ⟨[], .inl (.inl ⟨hcs, rfl⟩)⟩
  · simp at hcs
    rw [hsp, if_pos rfl] at hz
    by_cases h0 : len = 0
    · exact ⟨[], .inr ⟨x, cap, by rw [hcs, h0], rfl⟩⟩
    · obtain ⟨l, _, hb⟩ := bytes_of_row (by omega) hl hm hz hcell hwz
      exact ⟨l, .inl (by rw [hcs]; exact hb)⟩
theorem ies_of_trod {n : Nat} {v : Value} {y : DataW H × List MemPlace} (hsp : ∀ b, sp b = true) (h : DataW.trod enc Try.prog W 0 sp true n 43 [v] = some y) : ∃ L, Ies W v L := by
  rcases Deep.open_slice_pairs Try.underlying43 Try.underlying61 c61 rfl rfl c5 c22 h with ⟨hcs, _⟩ | ⟨a, len, cap, m, k, V0, V1, D0, D1, P0, P1, hcs, _, hl, hm, hmm, _, hx⟩
  · simp at hcs
    exact ⟨[], .inl ⟨none, 0, hcs, rfl⟩⟩
  · simp at hcs
    rw [hsp, if_pos rfl] at hmm
    by_cases h0 : len = 0
    · exact ⟨[], .inl ⟨some a, cap, by rw [hcs, h0], rfl⟩⟩
    · have each : ∀ i, ∃ e : Ie, i < len → V0 i = byteV e.1 ∧ BytesE W (V1 i) e.2 := by
        intro i
        by_cases hi : i < len
        · obtain ⟨_, _, t0, t1⟩ := hx i (by omega)
          obtain ⟨z, hz, _, hw⟩ := DataW.trod_int Try.underlying5 t0
          obtain ⟨z', hz', hzl⟩ := u8_of_wf hw
          obtain ⟨l, hb⟩ := body_of_trod hsp t1
          refine ⟨(UInt8.ofNat z', l), fun _ => ⟨?_, hb⟩⟩
          simp at hz
          rw [hz, hz']
          unfold byteV
          congr 1
          rw [UInt8.toNat_ofNat']
          omega
        · exact ⟨(0, []), fun h => absurd h hi⟩
      obtain ⟨f, hf⟩ := Classical.axiomOfChoice each
      have hs : a.spot = none := by
        have := World.cell?_spot (hx 0 (by omega)).1
        simpa [Addr.add] using this
      obtain ⟨b, off, s⟩ := a
      simp only at hs
      subst hs
      have hadd : ∀ j, (⟨b, off, none⟩ : Addr).add j = ⟨b, off + j, none⟩ := fun j => by unfold Addr.add; split <;> simp_all
      refine ⟨(List.range len).map f, .inr ⟨b, off, cap, by simpa using hcs, by simpa using hl, hm, fun j hj => ?_⟩⟩
      have hj' : j < len := by simpa using hj
      obtain ⟨g0, g1, _, _⟩ := hx j (by omega)
      obtain ⟨k0, k1⟩ := hf j hj'
      have hat : ieAt ((List.range len).map f) j = f j := by simp [ieAt, hj']
      rw [hadd] at g0 g1
      rw [hat]
      exact ⟨V1 j, by rw [← k0]; exact g0, by rw [Nat.add_assoc]; exact g1, k1⟩
theorem msg_of_trod {base : Nat} {v : Value} {d : DataW H} {p : List MemPlace} (hsp : ∀ b, sp b = true) (hval : Value.okWide Try.prog W .any base 45 v) (h : DataW.Trod enc Try.prog W 0 sp true 45 v d p) :
    ∃ (ref : Int) (back : Bool) (kind : Int) (u : Value) (L : List Ie), v = .agg (msgV ref back kind u) ∧ Ies W u L := by
  obtain ⟨cs, rfl, hs⟩ := okWide_struct Try.underlying45 hval
  obtain ⟨fuel, hf⟩ := h
  rw [c45] at hs
  obtain ⟨l⟩ := cs
  match l, hs with
  | [x0, x1, x2, x3], _ =>
    obtain ⟨xs, n, _, _, hl, hlen, hg⟩ := DataW.trod_struct Try.underlying45 hf
    match xs, hlen with
    | [y0, y1, y2, y3], _ =>
      have t0 := hg 0 _ rfl
      have t1 := hg 1 _ rfl
      have t2 := hg 2 _ rfl
      have t3 := hg 3 _ rfl
      simp [Value.cells, c3, c4, c43] at t0 t1 t2 t3
      obtain ⟨r, h0, _, _⟩ := DataW.trod_int Try.underlying3 t0
      obtain ⟨k, h2, _, _⟩ := DataW.trod_int Try.underlying3 t2
      obtain ⟨L, hL⟩ := ies_of_trod hsp t3
      obtain ⟨b, h1, _⟩ := DataW.trod_bool Try.underlying4 t1
      simp at h0 h1 h2
      exact ⟨r, b, k, x3, L, by rw [h0, h1, h2]; rfl, hL⟩
end
end Go.Proofs.Ytddohdfccagbbaa
