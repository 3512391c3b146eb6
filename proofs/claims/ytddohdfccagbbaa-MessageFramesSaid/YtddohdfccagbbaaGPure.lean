/- Plain laws of frames and gatherers: no program in sight. -/
import Derived.Test.YtddohdfccagbbaaTake
namespace Go.Proofs.Ytddohdfccagbbaa

theorem sumBytes_length (b : List UInt8) : (sumBytes b).length = 4 := rfl
theorem body_split (text : List UInt8) (m : UInt8) : frameBody text m = (text ++ List.replicate (48 * partsOf text.length - 8 - text.length) 0) ++ [m, 0, UInt8.ofNat (text.length / 256), UInt8.ofNat text.length] := rfl
theorem front_length (text : List UInt8) (h : 1 ≤ text.length) : (text ++ List.replicate (48 * partsOf text.length - 8 - text.length) (0 : UInt8)).length = 48 * partsOf text.length - 8 := by
  have := parts_room text.length h
  rw [List.length_append, List.length_replicate]
  omega
theorem body_length (text : List UInt8) (m : UInt8) (h : 1 ≤ text.length) : (frameBody text m).length = 48 * partsOf text.length - 4 := by
  have := parts_room text.length h
  rw [body_split, List.length_append, front_length text h]
  simp only [List.length_cons, List.length_nil]
  omega
theorem frame_length (text : List UInt8) (m : UInt8) (h : 1 ≤ text.length) : (frameOf text m).length = 48 * partsOf text.length := by
  have := parts_room text.length h
  rw [frameOf, List.length_append, body_length text m h, sumBytes_length]
  omega
theorem parts_pos (n : Nat) (h : 1 ≤ n) : 1 ≤ partsOf n := by unfold partsOf; rw [if_neg (by omega)]; omega
theorem frame_trailer (text : List UInt8) (m : UInt8) (h : 1 ≤ text.length) : (frameOf text m).drop ((frameOf text m).length - 8) = [m, 0, UInt8.ofNat (text.length / 256), UInt8.ofNat text.length] ++ sumBytes (frameBody text m) := by
  have := parts_room text.length h
  rw [frame_length text m h, frameOf, body_split, List.append_assoc]
  exact List.drop_left' (front_length text h)
theorem many_back (n : Nat) (h : n ≤ 1000) : (UInt8.ofNat (n / 256)).toNat * 256 + (UInt8.ofNat n).toNat = n := by
  simp only [UInt8.toNat_ofNat']
  omega
theorem unpack_frame (text : List UInt8) (m : UInt8) (h1 : 1 ≤ text.length) (h2 : text.length ≤ 1000) : unpackOf (frameOf text m) = (text, m, 0) := by
  have hr := parts_room text.length h1
  have hlen := frame_length text m h1
  have ht := frame_trailer text m h1
  have hbl := body_length text m h1
  unfold unpackOf
  have e1 : (frameOf text m).length - 4 = (frameBody text m).length := by omega
  rw [if_neg (by omega), e1]
  have d1 : (frameOf text m).drop (frameBody text m).length = sumBytes (frameBody text m) := by rw [frameOf, List.drop_left]
  have d2 : (frameOf text m).take (frameBody text m).length = frameBody text m := by rw [frameOf, List.take_left]
  rw [d1, d2, if_neg (by simp), ht]
  have hm := many_back text.length h2
  have g0 : ([m, 0, UInt8.ofNat (text.length / 256), UInt8.ofNat text.length] ++ sumBytes (frameBody text m))[0]?.getD 0 = m := rfl
  have g1 : ([m, 0, UInt8.ofNat (text.length / 256), UInt8.ofNat text.length] ++ sumBytes (frameBody text m))[1]?.getD 0 = 0 := rfl
  have g2 : ([m, 0, UInt8.ofNat (text.length / 256), UInt8.ofNat text.length] ++ sumBytes (frameBody text m))[2]?.getD 0 = UInt8.ofNat (text.length / 256) := rfl
  have g3 : ([m, 0, UInt8.ofNat (text.length / 256), UInt8.ofNat text.length] ++ sumBytes (frameBody text m))[3]?.getD 0 = UInt8.ofNat text.length := rfl
  simp only [g0, g1, g2, g3, hm]
  rw [if_neg (by rintro (h | h | h); exact h rfl; omega; omega)]
  have d3 : (frameOf text m).take ((frameOf text m).length - 8) = text ++ List.replicate (48 * partsOf text.length - 8 - text.length) 0 := by
    rw [hlen, frameOf, body_split, List.append_assoc]
    exact List.take_left' (front_length text h1)
  have d4 : (frameOf text m).take text.length = text := by
    rw [frameOf, body_split, List.append_assoc, List.append_assoc, List.take_left]
  rw [d3, List.drop_left, if_neg (by simp [anyByte]), if_neg (by omega), d4]

/-- A frame with a part left out has an error. -/
theorem unpack_missing (text : List UInt8) (m : UInt8) (h1 : 1 ≤ text.length) (h2 : text.length ≤ 1000) (k : Nat) (hk : k + 1 < partsOf text.length) :
    (unpackOf ((frameOf text m).take (48 * k) ++ (frameOf text m).drop (48 * (k + 1)))).2.2 ≠ 0 := by
  have hr := parts_room text.length h1
  have hlen := frame_length text m h1
  have ht := frame_trailer text m h1
  generalize frameOf text m = F at *
  obtain ⟨G, hG⟩ : ∃ G, G = F.take (48 * k) ++ F.drop (48 * (k + 1)) := ⟨_, rfl⟩
  rw [← hG]
  have hGl : G.length = 48 * (partsOf text.length - 1) := by rw [hG, List.length_append, List.length_take, List.length_drop]; omega
  have hGt : G.drop (G.length - 8) = F.drop (F.length - 8) := by
    rw [hGl, hG, List.drop_append, List.drop_of_length_le (by rw [List.length_take]; omega), List.nil_append, List.drop_drop]
    congr 1
    rw [List.length_take]
    omega
  unfold unpackOf
  rw [if_neg (by omega)]
  split
  · decide
  · rw [hGt, ht]
    have hm := many_back text.length h2
    have g2 : ([m, 0, UInt8.ofNat (text.length / 256), UInt8.ofNat text.length] ++ sumBytes (frameBody text m))[2]?.getD 0 = UInt8.ofNat (text.length / 256) := rfl
    have g3 : ([m, 0, UInt8.ofNat (text.length / 256), UInt8.ofNat text.length] ++ sumBytes (frameBody text m))[3]?.getD 0 = UInt8.ofNat text.length := rfl
    simp only [g2, g3, hm]
    rw [if_pos (.inr (.inr (by omega)))]
    decide

theorem chunks_length (l : List UInt8) : (chunks l).length = l.length / 48 := by simp [chunks]
theorem chunks_at {l : List UInt8} {pre post : List (List UInt8 × Bool)} {x : List UInt8 × Bool} (h : chunks l = pre ++ x :: post) : x = chunk l pre.length ∧ pre.length < l.length / 48 := by
  have h2 : (chunks l)[pre.length]? = some x := by rw [h]; simp
  have h3 : pre.length < (chunks l).length := by rw [h]; simp
  rw [chunks_length] at h3
  refine ⟨?_, h3⟩
  simp only [chunks, List.getElem?_map, List.getElem?_range h3, Option.map_some, Option.some.injEq] at h2
  exact h2.symm
theorem chunk_len (l : List UInt8) (k : Nat) (h : k < l.length / 48) : (chunk l k).1.length = 48 := by simp [chunk]; omega
theorem take_chunk (l : List UInt8) (k : Nat) : l.take (48 * k) ++ (chunk l k).1 = l.take (48 * (k + 1)) := by
  have e : (chunk l k).1 = (l.drop (48 * k)).take 48 := rfl
  rw [e, Nat.mul_succ, List.take_add]

/-- A part behind others that does not end, in time. -/
theorem take_more (s : GS) (t : Nat) (p : List UInt8) (hp : p.length = 48) (hd : s.due t = false) (hs : s.skips = false) (hl : s.b.length + 48 < 48 * 21) :
    s.take t p false = (s.add t p, [], 0, 2) := by
  have : (s.add t p).b.length / 48 < 21 := by simp only [GS.add, List.length_append]; omega
  simp only [GS.take, GS.tick, hd, hs, Bool.false_eq_true, if_false, if_pos this]
theorem take_last (s : GS) (t : Nat) (p : List UInt8) (hd : s.due t = false) (hs : s.skips = false) :
    s.take t p true = ({ s.add t p with b := [], lost := if (unpackOf (s.b ++ p)).2.2 ≠ 0 then s.lost + 1 else s.lost }, unpackOf (s.b ++ p)) := by
  simp only [GS.take, GS.tick, hd, hs, Bool.false_eq_true, if_false, if_true, GS.add]
theorem due_nil (s : GS) (t : Nat) (h : s.b = []) : s.due t = false := by simp [GS.due, h]
theorem due_same (s : GS) (t : Nat) (h : s.began = t) (hw : 1 ≤ s.wait) : s.due t = false := by
  simp only [GS.due, Bool.not_eq_false', Bool.or_eq_true, decide_eq_true_eq]
  right
  omega

/-- A gatherer that has taken the first k parts of F, all at t. -/
def fed (wait lost t : Nat) (F : List UInt8) (k began : Nat) : GS := ⟨wait, if k = 0 then began else t, lost, F.take (48 * k), false⟩
theorem fed_due (wait lost t : Nat) (F : List UInt8) (k began : Nat) (hw : 1 ≤ wait) : (fed wait lost t F k began).due t = false := by
  by_cases h : k = 0
  · exact due_nil _ _ (by simp [fed, h])
  · exact due_same _ _ (by simp [fed, h]) hw
theorem fed_more (wait lost t : Nat) (F : List UInt8) (k began : Nat) (hw : 1 ≤ wait) (hF : F.length ≤ 48 * 21) (hk : k < F.length / 48) (hl : (chunk F k).2 = false) (hm : F.length % 48 = 0) :
    (fed wait lost t F k began).take t (chunk F k).1 false = (fed wait lost t F (k + 1) began, [], 0, 2) := by
  have hlast : F.length - 48 * k ≠ 48 := by simpa [chunk] using hl
  rw [take_more _ _ _ (chunk_len F k hk) (fed_due _ _ _ _ _ _ hw) rfl (by simp [fed]; omega)]
  have h2 : (if (F.take (48 * k)).length = 0 then t else if k = 0 then began else t) = t := by
    by_cases h : k = 0
    · simp [h]
    · simp [h]
  have h2' : (if (fed wait lost t F k began).b.length = 0 then t else (fed wait lost t F k began).began) = t := h2
  simp only [GS.add, h2']
  simp [fed, take_chunk]
theorem fed_last (wait lost t : Nat) (F : List UInt8) (k began : Nat) (hw : 1 ≤ wait) (hk : k < F.length / 48) (hm : F.length % 48 = 0) (hl : (chunk F k).2 = true) :
    (fed wait lost t F k began).take t (chunk F k).1 true = (⟨wait, t, if (unpackOf F).2.2 ≠ 0 then lost + 1 else lost, [], false⟩, unpackOf F) := by
  have hlast : F.length - 48 * k = 48 := by simpa [chunk] using hl
  rw [take_last _ _ _ (fed_due _ _ _ _ _ _ hw) rfl]
  have e : (fed wait lost t F k began).b ++ (chunk F k).1 = F := by
    simp only [fed, take_chunk]
    exact List.take_of_length_le (by omega)
  rw [e]
  have h2 : (if (F.take (48 * k)).length = 0 then t else if k = 0 then began else t) = t := by
    by_cases h : k = 0
    · simp [h]
    · simp [h]
  have h2' : (if (fed wait lost t F k began).b.length = 0 then t else (fed wait lost t F k began).began) = t := h2
  simp only [GS.add, h2']
  rfl
end Go.Proofs.Ytddohdfccagbbaa
