/- Numbers by keys in a table of 128 slots: plain laws of probing, of putting in and of taking out. -/
import Derived.Test.YtoondlbagbgbmaaRows
namespace Go.Proofs.Tab

abbrev Key := Int × Int × Int
abbrev Ent := Key × Int

section
variable {hm : Key → Nat} {S T : Nat → Option Ent}

/-- Each entry is reached from its home, over slots in use; no key lies twice. -/
structure TInv (hm : Key → Nat) (S : Nat → Option Ent) : Prop where
  reach : ∀ i e, i < 128 → S i = some e → ∃ d, d < 128 ∧ (hm e.1 + d) % 128 = i ∧ ∀ d', d' < d → S ((hm e.1 + d') % 128) ≠ none
  uniq : ∀ i j e f, i < 128 → j < 128 → S i = some e → S j = some f → e.1 = f.1 → i = j

/-- The place that a search for k ends at. -/
def Seek (hm : Key → Nat) (S : Nat → Option Ent) (k : Key) (i : Nat) : Prop :=
  ∃ d, d < 128 ∧ i = (hm k + d) % 128 ∧ (∀ d', d' < d → ∃ e, S ((hm k + d') % 128) = some e ∧ e.1 ≠ k) ∧ (S i = none ∨ ∃ n, S i = some (k, n))

def put (S : Nat → Option Ent) (i : Nat) (v : Option Ent) : Nat → Option Ent := fun j => if j = i then v else S j
theorem put_same (S : Nat → Option Ent) (i : Nat) (v : Option Ent) : put S i v i = v := if_pos rfl
theorem put_other {S : Nat → Option Ent} {i j : Nat} {v : Option Ent} (h : j ≠ i) : put S i v j = S j := if_neg h

theorem Seek.lt {k : Key} {i : Nat} (h : Seek hm S k i) : i < 128 := by
  obtain ⟨d, _, rfl, _⟩ := h
  omega

/-- A key that lies somewhere is found there. -/
theorem found_there (hI : TInv hm S) {k : Key} {n : Int} {i j : Nat} (hf : Seek hm S k i) (hj : j < 128) (hs : S j = some (k, n)) : i = j := by
  have hi := hf.lt
  obtain ⟨d, hd, rfl, hbefore, hend⟩ := hf
  rcases hend with h0 | ⟨m, hm'⟩
  · obtain ⟨dj, hdj, hat, hall⟩ := hI.reach j _ hj hs
    simp only at hat hall
    rcases Nat.lt_trichotomy d dj with h | h | h
    · exact absurd h0 (hall d h)
    · subst h; rw [hat] at h0; rw [h0] at hs; cases hs
    · obtain ⟨e, he, hne⟩ := hbefore dj h
      rw [hat, hs] at he
      cases he
      exact absurd rfl hne
  · exact hI.uniq _ _ _ _ hi hj hm' hs rfl
/-- A key that lies nowhere is looked for up to a free slot. -/
theorem found_none {k : Key} {i : Nat} (hf : Seek hm S k i) (hno : ∀ j n, j < 128 → S j ≠ some (k, n)) : S i = none := by
  have hi := hf.lt
  obtain ⟨d, hd, rfl, hbefore, hend⟩ := hf
  rcases hend with h0 | ⟨m, hm'⟩
  · exact h0
  · exact absurd hm' (hno _ _ hi)

theorem put_inv (hI : TInv hm S) {k : Key} {n : Int} {i : Nat} (hf : Seek hm S k i) (h0 : S i = none) (hno : ∀ j n, j < 128 → S j ≠ some (k, n)) : TInv hm (put S i (some (k, n))) := by
  have hi := hf.lt
  constructor
  · intro j e hj he
    by_cases hji : j = i
    · subst hji
      rw [put_same] at he
      cases he
      obtain ⟨d, hd, he, hbefore, _⟩ := hf
      refine ⟨d, hd, he.symm, fun d' hd' => ?_⟩
      obtain ⟨e, hs, _⟩ := hbefore d' hd'
      rw [put_other (by intro h; rw [h, h0] at hs; cases hs), hs]
      simp
    · rw [put_other hji] at he
      obtain ⟨d, hd, hat, hall⟩ := hI.reach j e hj he
      refine ⟨d, hd, hat, fun d' hd' => ?_⟩
      by_cases hx : (hm e.1 + d') % 128 = i
      · rw [hx, put_same]; simp
      · rw [put_other hx]; exact hall d' hd'
  · intro a b e f ha hb he hf' hk
    by_cases hai : a = i <;> by_cases hbi : b = i
    · omega
    · subst hai
      rw [put_same] at he; cases he
      rw [put_other hbi] at hf'
      obtain ⟨fk, fn⟩ := f
      simp only at hk
      subst hk
      exact absurd hf' (hno b fn hb)
    · subst hbi
      rw [put_same] at hf'; cases hf'
      rw [put_other hai] at he
      obtain ⟨ek, en⟩ := e
      simp only at hk
      subst hk
      exact absurd he (hno a en ha)
    · rw [put_other hai] at he
      rw [put_other hbi] at hf'
      exact hI.uniq a b e f ha hb he hf' hk

/-- The slots as they lie behind a slot o: o itself is the last one. -/
def pos (o x : Nat) : Nat := (o + 1 + x) % 128
def off (o i : Nat) : Nat := (i + 127 - o) % 128
theorem pos_off {o i : Nat} (ho : o < 128) (hi : i < 128) : pos o (off o i) = i := by unfold pos off; omega
theorem off_pos {o x : Nat} (ho : o < 128) (hx : x < 128) : off o (pos o x) = x := by unfold pos off; omega
theorem off_lt (o i : Nat) : off o i < 128 := by unfold off; omega
theorem pos_lt (o x : Nat) : pos o x < 128 := by unfold pos; omega
theorem pos_inj {o x y : Nat} (hx : x < 128) (hy : y < 128) (h : pos o x = pos o y) : x = y := by unfold pos at h; omega
theorem pos_last {o : Nat} (ho : o < 128) : pos o 127 = o := by unfold pos; omega
theorem pos_step {o x : Nat} : (pos o x + 1) % 128 = pos o (x + 1) := by unfold pos; omega

/-- All between home and the entry at x are in use. -/
def Full (hm : Key → Nat) (S : Nat → Option Ent) (o x : Nat) : Prop :=
  ∀ e, S (pos o x) = some e → off o (hm e.1) ≤ x ∧ ∀ y, off o (hm e.1) ≤ y → y < x → S (pos o y) ≠ none
def Weak (hm : Key → Nat) (S : Nat → Option Ent) (o x : Nat) : Prop :=
  ∀ e, S (pos o x) = some e → off o (hm e.1) ≤ x

theorem full_of_inv (hlt : ∀ k, hm k < 128) (hI : TInv hm S) {o : Nat} (ho : o < 128) (hfree : S o = none) {x : Nat} (hx : x < 128) : Full hm S o x := by
  intro e he
  obtain ⟨d, hd, hat, hall⟩ := hI.reach _ e (pos_lt o x) he
  have hh := hlt e.1
  -- the way does not come by o
  have hno : ∀ d', d' ≤ d → (hm e.1 + d') % 128 ≠ o := by
    intro d' hd' h
    rcases Nat.lt_or_eq_of_le hd' with h1 | h1
    · exact hall d' h1 (by rw [h]; exact hfree)
    · subst h1; rw [hat] at h; rw [h, hfree] at he; cases he
  have hstep : ∀ d', d' ≤ d → off o (hm e.1) + d' < 128 := by
    intro d' hd'
    induction d' with
    | zero => have := off_lt o (hm e.1); omega
    | succ n ih =>
      have h1 := ih (by omega)
      have h2 := hno n (by omega)
      have h3 : off o (hm e.1) + n ≠ 127 := by
        intro h
        apply h2
        unfold off at h
        omega
      omega
  have hfin := hstep d (Nat.le_refl _)
  have hxe : x = off o (hm e.1) + d := by
    refine pos_inj (o := o) hx hfin ?_
    rw [← hat]
    unfold pos off
    omega
  refine ⟨by omega, fun y hy1 hy2 => ?_⟩
  have := hall (y - off o (hm e.1)) (by omega)
  have hp : (hm e.1 + (y - off o (hm e.1))) % 128 = pos o y := by
    have h1 := hstep (y - off o (hm e.1)) (by omega)
    unfold pos
    unfold off at hy1 hy2 h1 ⊢
    omega
  rw [hp] at this
  exact this

theorem inv_of_full (hlt : ∀ k, hm k < 128) {o : Nat} (ho : o < 128) (hfull : ∀ x, x < 128 → Full hm S o x) (huniq : ∀ i j e f, i < 128 → j < 128 → S i = some e → S j = some f → e.1 = f.1 → i = j) : TInv hm S := by
  refine ⟨fun i e hi he => ?_, huniq⟩
  have hh := hlt e.1
  have hx := off_lt o i
  rw [← pos_off ho hi] at he
  obtain ⟨h1, h2⟩ := hfull (off o i) hx e he
  refine ⟨off o i - off o (hm e.1), by omega, ?_, fun d' hd' => ?_⟩
  · unfold off at h1 ⊢
    omega
  · have := h2 (off o (hm e.1) + d') (by omega) (by omega)
    have hp : pos o (off o (hm e.1) + d') = (hm e.1 + d') % 128 := by
      unfold pos off
      omega
    rw [hp] at this
    exact this

/-- While those behind a hole are laid anew: j is the next one. -/
structure Mid (hm : Key → Nat) (S : Nat → Option Ent) (o j : Nat) : Prop where
  uniq : ∀ i j e f, i < 128 → j < 128 → S i = some e → S j = some f → e.1 = f.1 → i = j
  lt : o < 128
  parts : ∃ x z, x ≤ z ∧ z ≤ 127 ∧ j = pos o x ∧ S o = none ∧ S (pos o z) = none ∧ (∀ y, x ≤ y → y < z → S (pos o y) ≠ none) ∧
    (∀ y, y < 128 → Weak hm S o y) ∧ (∀ y, y < x → Full hm S o y) ∧ (∀ y, z < y → y < 128 → Full hm S o y)

theorem Mid.done (hlt : ∀ k, hm k < 128) {o j : Nat} (h : Mid hm S o j) (h0 : S j = none) : TInv hm S := by
  obtain ⟨huniq, ho, x, z, hxz, hz, rfl, hfree, hend, hrun, hweak, hlow, hhigh⟩ := h
  have : x = z := by
    rcases Nat.lt_or_eq_of_le hxz with h | h
    · exact absurd h0 (hrun x (Nat.le_refl _) h)
    · exact h
  subst this
  refine inv_of_full hlt ho (fun y hy => ?_) huniq
  rcases Nat.lt_trichotomy y x with h | h | h
  · exact hlow y h
  · subst h; intro e he; rw [hend] at he; cases he
  · exact hhigh y h hy

theorem Mid.free {o j : Nat} (h : Mid hm S o j) : S o = none := by
  obtain ⟨_, _, x, z, _, _, _, h1, _⟩ := h
  exact h1
theorem Mid.jlt {o j : Nat} (h : Mid hm S o j) : j < 128 := by
  obtain ⟨_, _, x, z, _, _, h0, _⟩ := h
  rw [h0]
  exact pos_lt _ _
/-- The first free slot from x on. -/
theorem first_free (S : Nat → Option Ent) (o : Nat) (h127 : S (pos o 127) = none) : ∀ m x, x ≤ 127 → 127 - x = m → ∃ z, x ≤ z ∧ z ≤ 127 ∧ S (pos o z) = none ∧ ∀ y, x ≤ y → y < z → S (pos o y) ≠ none := by
  intro m
  induction m with
  | zero =>
    intro x hx hm
    obtain rfl : x = 127 := by omega
    exact ⟨127, by omega, by omega, h127, fun y h1 h2 => by omega⟩
  | succ m ih =>
    intro x hx hm
    by_cases h : S (pos o x) = none
    · exact ⟨x, by omega, hx, h, fun y h1 h2 => by omega⟩
    · obtain ⟨z, h1, h2, h3, h4⟩ := ih (x + 1) (by omega) (by omega)
      refine ⟨z, by omega, h2, h3, fun y hy1 hy2 => ?_⟩
      by_cases hyx : y = x
      · rw [hyx]; exact h
      · exact h4 y (by omega) hy2

/-- A slot is made free: those behind it are to be laid anew. -/
theorem Mid.start (hlt : ∀ k, hm k < 128) (hI : TInv hm S) {o i : Nat} (ho : o < 128) (hfree : S o = none) (hi : i < 128) {e0 : Ent} (hs : S i = some e0) : Mid hm (put S i none) o ((i + 1) % 128) := by
  have hio : i ≠ o := by rintro rfl; rw [hfree] at hs; cases hs
  have hx0 := off_lt o i
  have hpi := pos_off ho hi
  have hx1 : off o i ≠ 127 := by
    intro h
    rw [h, pos_last ho] at hpi
    exact hio hpi.symm
  have hfull := fun x (hx : x < 128) => full_of_inv hlt hI ho hfree hx
  have ho' : put S i none o = none := by rw [put_other (Ne.symm hio)]; exact hfree
  obtain ⟨z, hz1, hz2, hz3, hz4⟩ := first_free (put S i none) o (by rw [pos_last ho]; exact ho') _ (off o i + 1) (by omega) rfl
  have hne : ∀ y, y < 128 → y ≠ off o i → pos o y ≠ i := fun y hy h1 h2 => h1 (by rw [← hpi] at h2; exact pos_inj hy hx0 h2)
  have hput : ∀ y, y < 128 → y ≠ off o i → put S i none (pos o y) = S (pos o y) := fun y hy h => put_other (hne y hy h)
  refine ⟨?_, ho, off o i + 1, z, hz1, hz2, ?_, ho', hz3, hz4, ?_, ?_, ?_⟩
  · intro a b e f ha hb he hf hk
    have h1 : a ≠ i := by rintro rfl; rw [put_same] at he; cases he
    have h2 : b ≠ i := by rintro rfl; rw [put_same] at hf; cases hf
    rw [put_other h1] at he
    rw [put_other h2] at hf
    exact hI.uniq a b e f ha hb he hf hk
  · rw [← pos_step, hpi]
  · intro y hy e he
    by_cases h : y = off o i
    · subst h; rw [hpi, put_same] at he; cases he
    · rw [hput y hy h] at he
      exact (hfull y hy e he).1
  · intro y hy e he
    by_cases h : y = off o i
    · subst h; rw [hpi, put_same] at he; cases he
    · rw [hput y (by omega) h] at he
      obtain ⟨h1, h2⟩ := hfull y (by omega) e he
      exact ⟨h1, fun v hv1 hv2 => by rw [hput v (by omega) (by omega)]; exact h2 v hv1 hv2⟩
  · intro y hy1 hy2 e he
    rw [hput y hy2 (by omega)] at he
    obtain ⟨h1, h2⟩ := hfull y hy2 e he
    have hzz : S (pos o z) = none := by rw [hput z (by omega) (by omega)] at hz3; exact hz3
    have hgt : z < off o (hm e.1) := by
      rcases Nat.lt_or_ge z (off o (hm e.1)) with h | h
      · exact h
      · exact absurd hzz (h2 z h hy1)
    exact ⟨h1, fun v hv1 hv2 => by rw [hput v (by omega) (by omega)]; exact h2 v hv1 hv2⟩

/-- One of them is laid anew. -/
theorem Mid.step (hlt : ∀ k, hm k < 128) {o j f : Nat} {s : Ent} (h : Mid hm S o j) (hs : S j = some s) (hf : Seek hm (put S j none) s.1 f) : put S j none f = none ∧ Mid hm (put (put S j none) f (some s)) o ((j + 1) % 128) := by
  obtain ⟨huniq, ho, x, z, hxz, hz, rfl, hfree, hend, hrun, hweak, hlow, hhigh⟩ := h
  have hxz' : x < z := by
    rcases Nat.lt_or_eq_of_le hxz with h | h
    · exact h
    · subst h; rw [hend] at hs; cases hs
  have hno : ∀ a n, a < 128 → put S (pos o x) none a ≠ some (s.1, n) := by
    intro a n ha he
    by_cases h : a = pos o x
    · subst h; rw [put_same] at he; cases he
    · rw [put_other h] at he
      exact h (huniq a (pos o x) _ _ ha (pos_lt _ _) he hs rfl)
  have hf0 := found_none hf hno
  refine ⟨hf0, ?_⟩
  have hne : ∀ y v, y < 128 → v < 128 → y ≠ v → pos o y ≠ pos o v := fun y v hy hv h1 h2 => h1 (pos_inj hy hv h2)
  have hput : ∀ y, y < 128 → y ≠ x → put S (pos o x) none (pos o y) = S (pos o y) := fun y hy h => put_other (hne y x hy (by omega) h)
  have hwx : off o (hm s.1) ≤ x := hweak x (by omega) s hs
  -- where it goes
  obtain ⟨xf, hxf1, hxf2, rfl, hway⟩ : ∃ xf, off o (hm s.1) ≤ xf ∧ xf ≤ x ∧ f = pos o xf ∧ ∀ y, off o (hm s.1) ≤ y → y < xf → put S (pos o x) none (pos o y) ≠ none := by
    obtain ⟨d, hd, hfd, hbefore, _⟩ := hf
    have hh := hlt s.1
    have hdx : off o (hm s.1) + d ≤ x := by
      rcases Nat.lt_or_ge x (off o (hm s.1) + d) with h | h
      · obtain ⟨e, he, _⟩ := hbefore (x - off o (hm s.1)) (by omega)
        have hp : (hm s.1 + (x - off o (hm s.1))) % 128 = pos o x := by
          unfold pos
          unfold off at hwx h ⊢
          omega
        rw [hp, put_same] at he
        cases he
      · exact h
    refine ⟨off o (hm s.1) + d, by omega, hdx, ?_, fun y hy1 hy2 => ?_⟩
    · rw [hfd]; unfold pos off; omega
    · obtain ⟨e, he, _⟩ := hbefore (y - off o (hm s.1)) (by omega)
      have hp : (hm s.1 + (y - off o (hm s.1))) % 128 = pos o y := by
        unfold pos
        unfold off at hy1 hy2 ⊢
        omega
      rw [hp] at he
      rw [he]; simp
  have hput2 : ∀ y, y < 128 → y ≠ xf → y ≠ x → put (put S (pos o x) none) (pos o xf) (some s) (pos o y) = S (pos o y) := fun y hy h1 h2 => by
    rw [put_other (hne y xf hy (by omega) h1), hput y hy h2]
  have hused : ∀ y, y < 128 → y ≠ x → S (pos o y) ≠ none → put (put S (pos o x) none) (pos o xf) (some s) (pos o y) ≠ none := fun y hy h1 h2 => by
    by_cases h3 : y = xf
    · subst h3; rw [put_same]; simp
    · rw [hput2 y hy h3 h1]; exact h2
  have hval : ∀ y e, y < 128 → put (put S (pos o x) none) (pos o xf) (some s) (pos o y) = some e → (y = xf ∧ e = s) ∨ (y ≠ xf ∧ y ≠ x ∧ S (pos o y) = some e) := fun y e hy he => by
    by_cases h3 : y = xf
    · subst h3; rw [put_same] at he; cases he; exact .inl ⟨rfl, rfl⟩
    · rw [put_other (hne y xf hy (by omega) h3)] at he
      by_cases h4 : y = x
      · subst h4; rw [put_same] at he; cases he
      · rw [hput y hy h4] at he; exact .inr ⟨h3, h4, he⟩
  refine ⟨?_, ho, x + 1, z, by omega, hz, pos_step, ?_, ?_, ?_, ?_, ?_, ?_⟩
  · -- no key twice
    have hback : ∀ a e, a < 128 → put (put S (pos o x) none) (pos o xf) (some s) a = some e → ∃ a', a' < 128 ∧ S a' = some e ∧ ((a = pos o xf ∧ a' = pos o x) ∨ (a' = a ∧ a ≠ pos o x ∧ a ≠ pos o xf)) := by
      intro a e ha he
      have hpa := pos_off ho ha
      rw [← hpa] at he
      rcases hval _ e (off_lt _ _) he with ⟨h1, rfl⟩ | ⟨h1, h2, h3⟩
      · exact ⟨pos o x, pos_lt _ _, hs, .inl ⟨by rw [← hpa, h1], rfl⟩⟩
      · refine ⟨a, ha, by rw [← hpa]; exact h3, .inr ⟨rfl, ?_, ?_⟩⟩
        · rw [← hpa]; exact hne _ _ (off_lt _ _) (by omega) h2
        · rw [← hpa]; exact hne _ _ (off_lt _ _) (by omega) h1
    intro a b e f ha hb he hf2 hk
    obtain ⟨a', ha1, ha2, ha3⟩ := hback a e ha he
    obtain ⟨b', hb1, hb2, hb3⟩ := hback b f hb hf2
    have hab := huniq a' b' e f ha1 hb1 ha2 hb2 hk
    rcases ha3 with ⟨h1, h2⟩ | ⟨h1, h2, h3⟩ <;> rcases hb3 with ⟨h4, h5⟩ | ⟨h4, h5, h6⟩
    · rw [h1, h4]
    · exact absurd (by rw [← h4, ← hab, h2]) h5
    · exact absurd (by rw [← h1, hab, h5]) h2
    · rw [← h1, ← h4, hab]
  · have h1 : put (put S (pos o x) none) (pos o xf) (some s) (pos o 127) = S (pos o 127) := hput2 127 (by omega) (by omega) (by omega)
    rw [pos_last ho] at h1
    rw [h1]; exact hfree
  · rw [hput2 z (by omega) (by omega) (by omega)]; exact hend
  · intro y hy1 hy2
    rw [hput2 y (by omega) (by omega) (by omega)]
    exact hrun y (by omega) hy2
  · intro y hy e he
    rcases hval y e hy he with ⟨rfl, rfl⟩ | ⟨_, _, h3⟩
    · exact hxf1
    · exact hweak y hy e h3
  · intro y hy e he
    rcases hval y e (by omega) he with ⟨rfl, rfl⟩ | ⟨h1, h2, h3⟩
    · refine ⟨hxf1, fun v hv1 hv2 => ?_⟩
      rw [put_other (hne v y (by omega) (by omega) (by omega))]
      exact hway v hv1 hv2
    · obtain ⟨h4, h5⟩ := hlow y (by omega) e h3
      exact ⟨h4, fun v hv1 hv2 => hused v (by omega) (by omega) (h5 v hv1 hv2)⟩
  · intro y hy1 hy2 e he
    rcases hval y e hy2 he with ⟨rfl, rfl⟩ | ⟨h1, h2, h3⟩
    · omega
    · obtain ⟨h4, h5⟩ := hhigh y hy1 hy2 e h3
      have hgt : z < off o (hm e.1) := by
        rcases Nat.lt_or_ge z (off o (hm e.1)) with h | h
        · exact h
        · exact absurd hend (h5 z h hy1)
      exact ⟨h4, fun v hv1 hv2 => hused v (by omega) (by omega) (h5 v hv1 hv2)⟩

/-- What lies in the slots. -/
def Holds (S : Nat → Option Ent) (e : Ent) : Prop := ∃ i, i < 128 ∧ S i = some e
theorem holds_put {i : Nat} {k : Key} {n : Int} (hi : i < 128) (h0 : S i = none) (e : Ent) : Holds (put S i (some (k, n))) e ↔ e = (k, n) ∨ Holds S e := by
  constructor
  · rintro ⟨j, hj, he⟩
    by_cases h : j = i
    · subst h; rw [put_same] at he; cases he; exact .inl rfl
    · rw [put_other h] at he; exact .inr ⟨j, hj, he⟩
  · rintro (rfl | ⟨j, hj, he⟩)
    · exact ⟨i, hi, put_same _ _ _⟩
    · exact ⟨j, hj, by rw [put_other (by rintro rfl; rw [h0] at he; cases he)]; exact he⟩
theorem holds_free {i : Nat} {e0 : Ent} (hu : ∀ i j e f, i < 128 → j < 128 → S i = some e → S j = some f → e.1 = f.1 → i = j) (hi : i < 128) (hs : S i = some e0) (e : Ent) : Holds (put S i none) e ↔ e.1 ≠ e0.1 ∧ Holds S e := by
  constructor
  · rintro ⟨j, hj, he⟩
    by_cases h : j = i
    · subst h; rw [put_same] at he; cases he
    · rw [put_other h] at he
      exact ⟨fun hk => h (hu j i _ _ hj hi he hs hk), j, hj, he⟩
  · rintro ⟨hne, j, hj, he⟩
    exact ⟨j, hj, by rw [put_other (by rintro rfl; rw [hs] at he; cases he; exact hne rfl)]; exact he⟩
theorem holds_move {j f : Nat} {s : Ent} (hj : j < 128) (hf : f < 128) (hs : S j = some s) (hfr : put S j none f = none) (e : Ent) : Holds (put (put S j none) f (some s)) e ↔ Holds S e := by
  constructor
  · rintro ⟨a, ha, he⟩
    by_cases h : a = f
    · subst h; rw [put_same] at he; cases he; exact ⟨j, hj, hs⟩
    · rw [put_other h] at he
      by_cases h2 : a = j
      · subst h2; rw [put_same] at he; cases he
      · rw [put_other h2] at he; exact ⟨a, ha, he⟩
  · rintro ⟨a, ha, he⟩
    by_cases h : a = j
    · subst h; rw [hs] at he; cases he; exact ⟨f, hf, put_same _ _ _⟩
    · by_cases h2 : a = f
      · subst h2; rw [put_other h] at hfr; rw [hfr] at he; cases he
      · exact ⟨a, ha, by rw [put_other h2, put_other h]; exact he⟩

theorem nodup_le {α : Type} [DecidableEq α] : ∀ (l m : List α), l.Nodup → (∀ x, x ∈ l → x ∈ m) → l.length ≤ m.length
  | [], _, _, _ => Nat.zero_le _
  | a :: l, m, hn, hs => by
    have ha := hs a (by simp)
    have h := nodup_le l (m.erase a) (List.nodup_cons.1 hn).2 (fun x hx => by
      have hxa : x ≠ a := by rintro rfl; exact (List.nodup_cons.1 hn).1 hx
      exact (List.mem_erase_of_ne hxa).2 (hs x (by simp [hx])))
    rw [List.length_erase_of_mem ha] at h
    have := List.length_pos_of_mem ha
    simp only [List.length_cons]
    omega

/-- There is a free slot, if fewer than 128 lie there. -/
theorem free_slot (hu : ∀ i j e f, i < 128 → j < 128 → S i = some e → S j = some f → e.1 = f.1 → i = j) (L : List Ent) (hL : ∀ e, Holds S e → e ∈ L) (hlen : L.length < 128) : ∃ o, o < 128 ∧ S o = none := by
  apply Classical.byContradiction
  intro hno
  have hall : ∀ i, i < 128 → ∃ e, S i = some e := fun i hi => by
    cases h : S i with
    | none => exact absurd ⟨i, hi, h⟩ hno
    | some e => exact ⟨e, rfl⟩
  obtain ⟨g, hg⟩ : ∃ g : Nat → Ent, ∀ i, i < 128 → S i = some (g i) := by
    refine ⟨fun i => (S i).getD ((0, 0, 0), 0), fun i hi => ?_⟩
    obtain ⟨e, he⟩ := hall i hi
    simp [he]
  have h := nodup_le ((List.range 128).map g) L (by
    rw [List.Nodup, List.pairwise_map]
    refine List.Pairwise.imp_of_mem ?_ (List.nodup_range (n := 128))
    intro a b ha hb hab heq
    rw [List.mem_range] at ha hb
    exact hab (hu a b _ _ ha hb (hg a ha) (hg b hb) (by rw [heq])))
    (fun e he => by
      obtain ⟨i, hi, rfl⟩ := List.mem_map.1 he
      rw [List.mem_range] at hi
      exact hL _ ⟨i, hi, hg i hi⟩)
  rw [List.length_map, List.length_range] at h
  omega
end
end Go.Proofs.Tab
