/- Entries in order: putting in, taking out, looking up: plain laws. -/
import Derived.Test.YtoondlbagbgbmaaRows
import Derived.Test.YtoondlbagbgbmaaProbe
namespace Go.Proofs.Tab

/-- One key is ahead of another one. -/
def before (a b : Key) : Bool := decide (a.1 < b.1) || (decide (a.1 = b.1) && (decide (a.2.1 < b.2.1) || (decide (a.2.1 = b.2.1) && decide (a.2.2 < b.2.2))))
def rightB (k : Key) : Bool := decide (0 ≤ k.1) && decide (k.1 < 8) && decide (0 ≤ k.2.1) && decide (k.2.1 < 4096) && decide (0 ≤ k.2.2) && decide (k.2.2 < 65536)
theorem before_iff (a b : Key) : before a b = true ↔ a.1 < b.1 ∨ a.1 = b.1 ∧ (a.2.1 < b.2.1 ∨ a.2.1 = b.2.1 ∧ a.2.2 < b.2.2) := by
  simp [before]
theorem rightB_iff (k : Key) : rightB k = true ↔ 0 ≤ k.1 ∧ k.1 < 8 ∧ 0 ≤ k.2.1 ∧ k.2.1 < 4096 ∧ 0 ≤ k.2.2 ∧ k.2.2 < 65536 := by
  simp [rightB, and_assoc]
theorem key_ext {a b : Key} (h1 : a.1 = b.1) (h2 : a.2.1 = b.2.1) (h3 : a.2.2 = b.2.2) : a = b := by
  obtain ⟨a1, a2, a3⟩ := a
  obtain ⟨b1, b2, b3⟩ := b
  simp_all
theorem before_irrefl (a : Key) : before a a = false := by
  rw [Bool.eq_false_iff, Ne, before_iff]; omega
theorem before_asymm {a b : Key} (h : before a b = true) : before b a = false := by
  rw [before_iff] at h
  rw [Bool.eq_false_iff, Ne, before_iff]; omega
theorem before_trans {a b c : Key} (h : before a b = true) (k : before b c = true) : before a c = true := by
  rw [before_iff] at *; omega
theorem before_total {a b : Key} (h : a ≠ b) : before a b = true ∨ before b a = true := by
  rw [before_iff, before_iff]
  rcases Int.lt_trichotomy a.1 b.1 with h1 | h1 | h1
  · omega
  · rcases Int.lt_trichotomy a.2.1 b.2.1 with h2 | h2 | h2
    · omega
    · rcases Int.lt_trichotomy a.2.2 b.2.2 with h3 | h3 | h3
      · omega
      · exact absurd (key_ext h1 h2 h3) h
      · omega
    · omega
  · omega
theorem before_ne {a b : Key} (h : before a b = true) : a ≠ b := by
  rintro rfl
  rw [before_irrefl] at h
  cases h

section
variable {α : Type} (key : α → Key)
def Sorted (M : List α) : Prop := M.Pairwise fun a b => before (key a) (key b) = true
/-- Put in, in order. -/
def insK (e : α) : List α → List α
  | [] => [e]
  | a :: M => if before (key a) (key e) then a :: insK e M else e :: a :: M
def lookK (M : List α) (k : Key) : Option α := M.find? fun e => decide (key e = k)
def delK (M : List α) (k : Key) : List α := M.filter fun e => !decide (key e = k)
variable {key}
theorem mem_ins (e : α) (M : List α) (x : α) : x ∈ insK key e M ↔ x = e ∨ x ∈ M := by
  induction M with
  | nil => simp [insK]
  | cons a M ih =>
    unfold insK
    split
    · simp only [List.mem_cons, ih]
      constructor
      · rintro (h | h | h)
        · exact .inr (.inl h)
        · exact .inl h
        · exact .inr (.inr h)
      · rintro (h | h | h)
        · exact .inr (.inl h)
        · exact .inl h
        · exact .inr (.inr h)
    · simp
theorem length_ins (e : α) (M : List α) : (insK key e M).length = M.length + 1 := by
  induction M with
  | nil => rfl
  | cons a M ih =>
    unfold insK
    split
    · simp [ih]
    · simp
theorem sorted_ins {e : α} {M : List α} (h : Sorted key M) (hno : ∀ x, x ∈ M → key x ≠ key e) : Sorted key (insK key e M) := by
  induction M with
  | nil => simp [insK, Sorted]
  | cons a M ih =>
    obtain ⟨h1, h2⟩ := List.pairwise_cons.1 h
    unfold insK
    split
    · rename_i hb
      refine List.pairwise_cons.2 ⟨fun x hx => ?_, ih h2 (fun x hx => hno x (by simp [hx]))⟩
      rcases (mem_ins _ _ _).1 hx with rfl | hx
      · exact hb
      · exact h1 x hx
    · rename_i hb
      have hea : before (key e) (key a) = true := by
        rcases before_total (hno a (by simp)) with h | h
        · exact absurd h hb
        · exact h
      refine List.pairwise_cons.2 ⟨fun x hx => ?_, h⟩
      rcases List.mem_cons.1 hx with rfl | hx
      · exact hea
      · exact before_trans hea (h1 x hx)
theorem sorted_del {M : List α} (h : Sorted key M) (k : Key) : Sorted key (delK key M k) := List.Pairwise.filter _ h
theorem mem_del {M : List α} {k : Key} {x : α} : x ∈ delK key M k ↔ x ∈ M ∧ key x ≠ k := by simp [delK]
theorem sorted_uniq {M : List α} (h : Sorted key M) : ∀ x y, x ∈ M → y ∈ M → key x = key y → x = y := by
  induction M with
  | nil => intro x y hx; cases hx
  | cons a M ih =>
    obtain ⟨h1, h2⟩ := List.pairwise_cons.1 h
    intro x y hx hy hk
    rcases List.mem_cons.1 hx with hx1 | hx1 <;> rcases List.mem_cons.1 hy with hy1 | hy1
    · rw [hx1, hy1]
    · rw [hx1] at hk; exact absurd hk (before_ne (h1 y hy1))
    · rw [hy1] at hk; exact absurd hk.symm (before_ne (h1 x hx1))
    · exact ih h2 x y hx1 hy1 hk
theorem lookK_some {M : List α} (h : Sorted key M) {k : Key} {x : α} : lookK key M k = some x ↔ x ∈ M ∧ key x = k := by
  constructor
  · intro hl
    exact ⟨List.mem_of_find?_eq_some hl, by simpa using List.find?_some hl⟩
  · rintro ⟨hx, rfl⟩
    cases hl : lookK key M (key x) with
    | none => have := List.find?_eq_none.1 hl x hx; simp at this
    | some y =>
      have hy := List.mem_of_find?_eq_some hl
      have hk : key y = key x := by simpa using List.find?_some hl
      rw [sorted_uniq h y x hy hx hk]
theorem lookK_none {M : List α} {k : Key} : lookK key M k = none ↔ ∀ x, x ∈ M → key x ≠ k := by
  simp [lookK, List.find?_eq_none]
theorem length_del {M : List α} (h : Sorted key M) {k : Key} {x : α} (hx : lookK key M k = some x) : (delK key M k).length + 1 = M.length := by
  induction M with
  | nil => simp [lookK] at hx
  | cons a M ih =>
    obtain ⟨h1, h2⟩ := List.pairwise_cons.1 h
    by_cases ha : key a = k
    · have hall : ∀ y, y ∈ M → key y ≠ k := fun y hy hk => before_ne (h1 y hy) (ha.trans hk.symm)
      have : delK key M k = M := List.filter_eq_self.2 (fun y hy => by simpa using hall y hy)
      simp only [delK, List.filter_cons, ha, decide_true, Bool.not_true, Bool.false_eq_true, if_false, List.length_cons]
      have h3 : (List.filter (fun e => !decide (key e = k)) M).length = M.length := congrArg List.length this
      omega
    · have hx' : lookK key M k = some x := by simpa [lookK, List.find?_cons, ha] using hx
      have := ih h2 hx'
      simp only [delK, List.filter_cons, ha, decide_false, Bool.not_false, if_true, List.length_cons]
      have h3 : (delK key M k).length = (List.filter (fun e => !decide (key e = k)) M).length := rfl
      omega
theorem del_none {M : List α} {k : Key} (h : lookK key M k = none) : delK key M k = M :=
  List.filter_eq_self.2 (fun y hy => by simpa using lookK_none.1 h y hy)
/-- What is in order is one list. -/
theorem sorted_ext {M N : List α} (hM : Sorted key M) (hN : Sorted key N) (h : ∀ x, x ∈ M ↔ x ∈ N) : M = N := by
  induction M generalizing N with
  | nil =>
    cases N with
    | nil => rfl
    | cons b N => exact absurd ((h b).2 (by simp)) (by simp)
  | cons a M ih =>
    cases N with
    | nil => exact absurd ((h a).1 (by simp)) (by simp)
    | cons b N =>
      obtain ⟨a1, a2⟩ := List.pairwise_cons.1 hM
      obtain ⟨b1, b2⟩ := List.pairwise_cons.1 hN
      have hab : a = b := by
        rcases List.mem_cons.1 ((h a).1 (by simp)) with h1 | h1
        · exact h1
        · rcases List.mem_cons.1 ((h b).2 (by simp)) with h2 | h2
          · exact h2.symm
          · have h3 := b1 a h1
            have h4 := a1 b h2
            rw [before_asymm h4] at h3
            cases h3
      subst hab
      rw [ih a2 b2 (fun x => ?_)]
      constructor
      · intro hx
        rcases List.mem_cons.1 ((h x).1 (by simp [hx])) with h1 | h1
        · subst h1; exact absurd (a1 x hx) (by rw [before_irrefl]; simp)
        · exact h1
      · intro hx
        rcases List.mem_cons.1 ((h x).2 (by simp [hx])) with h1 | h1
        · subst h1; exact absurd (b1 x hx) (by rw [before_irrefl]; simp)
        · exact h1
theorem sorted_nodup {M : List α} (h : Sorted key M) : M.Nodup := List.Pairwise.imp (fun {a b} hab => by rintro rfl; exact before_ne hab rfl) h
theorem ins_del_ins {M : List α} (h : Sorted key M) {e : α} (hno : lookK key M (key e) = none) : delK key (insK key e M) (key e) = M := by
  refine sorted_ext (sorted_del (sorted_ins h (lookK_none.1 hno)) _) h (fun x => ?_)
  rw [mem_del, mem_ins]
  constructor
  · rintro ⟨rfl | h1, h2⟩
    · exact absurd rfl h2
    · exact h1
  · exact fun hx => ⟨.inr hx, lookK_none.1 hno x hx⟩
end
end Go.Proofs.Tab
