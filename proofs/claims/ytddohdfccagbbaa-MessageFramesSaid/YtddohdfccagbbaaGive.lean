/- What a row's step hands to a walk: a slice of bytes that came in, as a list of bytes. -/
import Derived.Test.YtddohdfccagbbaaRows
import Derived.Test.YtddohdfccagbbaaBase
import Derived.Test.YtddohdfccagbbaaBytes
import Derived.Test.YtddohdfccagbbaaCells
namespace Go.Proofs.Ytddohdfccagbbaa
open Go.RowKit Go.Shelf

theorem u8_of_wf {n : Int} (h : (Lit.int .u8 n).wf = true) : ∃ m : Nat, n = (m : Int) ∧ m < 256 := by
  simp only [Lit.wf, Bool.and_eq_true, decide_eq_true_eq, show IntKind.u8.min = 0 from rfl, show IntKind.u8.max = 255 from rfl] at h
  exact ⟨n.toNat, by omega, by omega⟩
theorem u16_of_wf {n : Int} (h : (Lit.int .u16 n).wf = true) : ∃ m : Nat, n = (m : Int) ∧ m < 65536 := by
  simp only [Lit.wf, Bool.and_eq_true, decide_eq_true_eq, show IntKind.u16.min = 0 from rfl, show IntKind.u16.max = 65535 from rfl] at h
  exact ⟨n.toNat, by omega, by omega⟩
theorem bytes_of_row {w : World} {x : Addr} {len cap : Nat} {zs : List Int} (h0 : 0 < len) (hl : len ≤ cap) (hm : cap ≤ maxLen) (hz : zs.length = cap) (hc : ∀ i, i < zs.length → w.cell? (x.add i) = some (.int .u8 (zs.getD i 0))) (hw : ∀ n ∈ zs, (Lit.int .u8 n).wf = true) :
    ∃ l : List UInt8, l.length = len ∧ Bytes w (.slice (some x) len cap) l := by
  have hs : x.spot = none := by
    have := World.cell?_spot (hc 0 (by omega))
    simpa [Addr.add] using this
  have hb : x.block < w.heap.size := by
    have := World.block_lt_of_cell? w _ (hc 0 (by omega))
    simpa [Addr.add] using this
  obtain ⟨b, off, sp⟩ := x
  simp only at hs hb
  subst hs
  obtain ⟨l, hlz⟩ : ∃ l : List UInt8, l = (zs.take len).map fun n => UInt8.ofNat n.toNat := ⟨_, rfl⟩
  have hll : l.length = len := by rw [hlz, List.length_map, List.length_take]; omega
  refine ⟨l, hll, .inr ⟨b, off, cap, by rw [hll], by rw [hll]; exact hl, hm, hb, fun j hj => ?_⟩⟩
  rw [hll] at hj
  have h1 := hc j (by omega)
  have ha : (⟨b, off, none⟩ : Addr).add j = ⟨b, off + j, none⟩ := by
    unfold Addr.add
    split
    · rename_i h0; simp_all
    · rfl
  rw [ha] at h1
  rw [h1]
  have hjz : j < zs.length := by omega
  have hzj : zs.getD j 0 = zs[j] := by simp [List.getD_eq_getElem?_getD, List.getElem?_eq_getElem hjz]
  have hwf := hw zs[j] (List.getElem_mem hjz)
  have hr : 0 ≤ zs[j] ∧ zs[j] < 256 := by
    obtain ⟨m, h1, h2⟩ := u8_of_wf hwf
    omega
  have hlj : l[j]?.getD 0 = UInt8.ofNat (zs[j]).toNat := by
    rw [hlz, List.getElem?_map, List.getElem?_take_of_lt hj, List.getElem?_eq_getElem hjz]
    rfl
  rw [hlj, hzj]
  congr 2
  have : (UInt8.ofNat (zs[j]).toNat).toNat = (zs[j]).toNat := by
    rw [UInt8.toNat_ofNat']
    omega
  rw [this]
  omega
theorem u8_cell {W : World} {base : Nat} {v : Value} (h : Cell.okWide Try.prog W .any base 5 v) : ∃ b : UInt8, v = byteV b := by
  simp only [Cell.okWide, Try.underlying5, Cell.ok] at h
  cases v with
  | int k n =>
    simp only at h
    obtain ⟨rfl, h1⟩ := h
    have h2 : IntKind.u8.min ≤ n ∧ n ≤ IntKind.u8.max := h1
    rw [show IntKind.u8.min = 0 from rfl, show IntKind.u8.max = 255 from rfl] at h2
    refine ⟨UInt8.ofNat n.toNat, ?_⟩
    unfold byteV
    congr 1
    rw [UInt8.toNat_ofNat']
    omega
  | _ => simp at h
theorem arr_of_ok {W : World} {base : Nat} {v : Value} (h : Value.okWide Try.prog W .any base 33 v) : ∃ p : List UInt8, p.length = 48 ∧ v = arrV p := by
  simp only [Value.okWide, Try.underlying33] at h
  obtain ⟨cs, rfl, hs, ts, hts, _, hc⟩ := h
  have e : Try.prog.cellTypes Try.prog.depth 33 = some (List.replicate 48 5) := by kernel_rfl
  have hz : Try.prog.cellsOf 33 = 48 := by kernel_rfl
  rw [e] at hts
  rw [hz] at hs
  cases hts
  have hb : ∀ i, i < 48 → ∃ b : UInt8, cs[i]? = some (byteV b) := by
    intro i hi
    have hi2 : i < cs.size := by omega
    obtain ⟨u, hu, hk⟩ := hc i cs[i] (by simp [hi2])
    rw [List.length_replicate, Nat.mod_eq_of_lt hi, List.getElem?_replicate, if_pos hi] at hu
    cases hu
    obtain ⟨b, hb⟩ := u8_cell hk
    exact ⟨b, by simp [hi2, hb]⟩
  obtain ⟨f, hf⟩ : ∃ f : Nat → UInt8, ∀ i, i < 48 → cs[i]? = some (byteV (f i)) := by
    refine ⟨fun i => if h : i < 48 then (hb i h).choose else 0, fun i hi => ?_⟩
    simp only [hi, dite_true]
    exact (hb i hi).choose_spec
  refine ⟨(List.range 48).map f, by simp, ?_⟩
  unfold arrV rowOf
  congr 1
  apply Array.ext
  · simp [hs]
  · intro i h1 h2
    have := hf i (by omega)
    rw [Array.getElem?_eq_getElem h1] at this
    simp at this
    simp [this]
end Go.Proofs.Ytddohdfccagbbaa
