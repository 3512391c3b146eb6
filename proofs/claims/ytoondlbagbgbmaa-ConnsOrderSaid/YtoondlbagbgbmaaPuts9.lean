/- Putting many in, one by one; what is put and dropped again, in the other order: plain laws; a law's loop over its puts. -/
import Derived.Test.YtoondlbagbgbmaaRows
import Derived.Test.YtoondlbagbgbmaaBase
import Derived.Test.YtoondlbagbgbmaaProbe
import Derived.Test.YtoondlbagbgbmaaSorted
import Derived.Test.YtoondlbagbgbmaaConns1
import Derived.Test.YtoondlbagbgbmaaPut
import Derived.Test.YtoondlbagbgbmaaSliceK
import Derived.Test.YtoondlbagbgbmaaLaw9
import Derived.Test.YtoondlbagbgbmaaGiveK
namespace Go.Proofs.Ytoondlbagbgbmaa
open Go.RowKit Go.Shelf Go.Proofs.Tab

/-- What lies there behind so many puts. -/
def putsOf (room : Int) (M : List Ent) (l : List Ent) : List Ent := l.foldl (fun M e => (putOf room M e.1 e.2).2) M
theorem putsOf_succ {room : Int} {M l : List Ent} {k : Nat} {e : Ent} (h : l[k]? = some e) : putsOf room M (l.take (k + 1)) = (putOf room (putsOf room M (l.take k)) e.1 e.2).2 := by
  obtain ⟨hk, rfl⟩ := List.getElem?_eq_some_iff.1 h
  unfold putsOf
  rw [List.take_succ_eq_append_getElem hk, List.foldl_append]
  rfl
/-- Keys that were put, each one where it was not. -/
def Chain (M : List Ent) (P : List Key) (M1 : List Ent) : Prop :=
  ∃ F : Nat → List Ent, F 0 = M ∧ F P.length = M1 ∧ ∀ j k, P[j]? = some k → Sorted Prod.fst (F j) ∧ lookK Prod.fst (F j) k = none ∧ ∃ n, F (j + 1) = insK Prod.fst (k, n) (F j)
theorem Chain.nil (M : List Ent) : Chain M [] M := ⟨fun _ => M, rfl, rfl, fun j k h => by simp at h⟩
theorem Chain.snoc {M : List Ent} {P : List Key} {M1 : List Ent} (h : Chain M P M1) (hs : Sorted Prod.fst M1) {k : Key} {n : Int} (hno : lookK Prod.fst M1 k = none) : Chain M (P ++ [k]) (insK Prod.fst (k, n) M1) := by
  obtain ⟨F, h0, h1, h2⟩ := h
  refine ⟨fun j => if j ≤ P.length then F j else insK Prod.fst (k, n) M1, by simp [h0], (by simp; intro h; omega), fun j k' hj => ?_⟩
  by_cases hjl : j < P.length
  · rw [List.getElem?_append_left hjl] at hj
    obtain ⟨a, b, m, c⟩ := h2 j k' hj
    simp only
    rw [if_pos (by omega), if_pos (by omega)]
    exact ⟨a, b, m, c⟩
  · have hjl2 : j = P.length := by
      have := (List.getElem?_eq_some_iff.1 hj).1
      simp at this
      omega
    subst hjl2
    simp at hj
    subst hj
    simp only [Nat.le_refl, if_true]
    rw [if_neg (by omega), h1]
    exact ⟨hs, hno, n, rfl⟩
theorem Chain.last {M : List Ent} {P : List Key} {M1 : List Ent} (h : Chain M P M1) {i : Nat} (hi : P.length = i + 1) {k : Key} (hk : P[i]? = some k) : ∃ M0, Chain M (P.take i) M0 ∧ (lookK Prod.fst M1 k).isSome = true ∧ delK Prod.fst M1 k = M0 := by
  obtain ⟨F, h0, h1, h2⟩ := h
  obtain ⟨a, b, n, c⟩ := h2 i k hk
  rw [hi] at h1
  rw [h1] at c
  refine ⟨F i, ⟨F, h0, by rw [List.length_take, Nat.min_eq_left (by omega)], fun j k' hj => ?_⟩, ?_, ?_⟩
  · by_cases hji : j < i
    · rw [List.getElem?_take_of_lt hji] at hj
      exact h2 j k' hj
    · rw [List.getElem?_eq_none (by rw [List.length_take]; omega)] at hj
      cases hj
  · rw [c]
    have := (lookK_some (sorted_ins a (lookK_none.1 b))).2 ⟨(mem_ins (key := Prod.fst) (k, n) (F i) (k, n)).2 (.inl rfl), rfl⟩
    rw [this]; rfl
  · rw [c]; exact ins_del_ins a b
theorem putOf_ok {room : Int} {M : List Ent} {k : Key} {n : Int} (h : (putOf room M k n).1 = 0) : lookK Prod.fst M k = none ∧ (putOf room M k n).2 = insK Prod.fst (k, n) M := by
  unfold putOf at *
  by_cases h1 : rightB k = false
  · rw [if_pos h1] at h; cases h
  · rw [if_neg h1] at h ⊢
    cases h2 : lookK Prod.fst M k with
    | some x => rw [h2, if_pos (by simp)] at h; cases h
    | none =>
      rw [h2, if_neg (by simp)] at h
      rw [if_neg (by simp)]
      by_cases h3 : room ≤ (M.length : Int)
      · rw [if_pos h3] at h; cases h
      · rw [if_neg h3]; exact ⟨rfl, rfl⟩
theorem putOf_not {room : Int} {M : List Ent} {k : Key} {n : Int} (h : (putOf room M k n).1 ≠ 0) : (putOf room M k n).2 = M := by
  unfold putOf at *
  by_cases h1 : rightB k = false
  · rw [if_pos h1]
  · rw [if_neg h1] at h ⊢
    cases h2 : lookK Prod.fst M k with
    | some x => rw [if_pos (by simp)]
    | none =>
      rw [h2, if_neg (by simp)] at h
      rw [if_neg (by simp)]
      by_cases h3 : room ≤ (M.length : Int)
      · rw [if_pos h3]
      · rw [if_neg h3] at h; exact absurd rfl h
/-- Entries in order, put into a table of their own. -/
theorem putOf_pre {M pre post : List Ent} {x : Ent} (h : M = pre ++ x :: post) (hs : Sorted Prod.fst M) (hr : ∀ e, e ∈ M → rightB e.1 = true) (hl : (M.length : Int) ≤ 64) : putOf 64 pre x.1 x.2 = (0, pre ++ [x]) := by
  subst h
  unfold Sorted at hs
  rw [List.pairwise_append] at hs
  exact putOf_last (hr x (by simp)) (fun y hy => hs.2.2 y hy x (by simp)) (by simp at hl; omega)

/-- A key's cells. -/
def keyE (k : Key) : List Value := [.int .i64 k.1, .int .i64 k.2.1, .int .i64 k.2.2]
theorem keyT : ElT Try.prog 37 29 3 24 := ElT.of (z := .agg #[.int .i64 0, .int .i64 0, .int .i64 0]) Try.underlying37 (by kernel_rfl) rfl (by omega) (by omega)
theorem keyEnc : EncK keyE 3 := ⟨fun _ => rfl, fun x v hv => by simp [keyE] at hv; rcases hv with rfl | rfl | rfl <;> rfl⟩
end Go.Proofs.Ytoondlbagbgbmaa
