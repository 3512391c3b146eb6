/- gather: parts put together: what each call does to a gatherer. -/
import Derived.Test.YtddohdfccagbbaaRows
import Derived.Test.YtddohdfccagbbaaBase
import Derived.Test.YtddohdfccagbbaaBytes
import Derived.Test.YtddohdfccagbbaaSums
import Derived.Test.YtddohdfccagbbaaFrame
import Derived.Test.YtddohdfccagbbaaCells
namespace Go.Proofs.Ytddohdfccagbbaa
open Go.RowKit Go.Shelf
attribute [local go_sem] Oper.semAt_some

/-- A gatherer. -/
structure GS where
  wait : Nat
  began : Nat
  lost : Nat
  b : List UInt8
  skips : Bool
structure GS.Ok (s : GS) : Prop where
  wait : s.wait ≤ 1152921504606846976
  began : s.began ≤ 2305843009213693952
  lost : s.lost ≤ 1000000000
  b : s.b.length ≤ 100000
def gcells (s : GS) (a : Option Addr) (c : Nat) : Array Value := #[.int .i64 (s.wait : Int), .int .i64 (s.began : Int), .int .i64 (s.lost : Int), .slice a s.b.length c, .bool s.skips]
/-- The gatherer's bytes lie in a row of bytes, not in the gatherer. -/
def Lies (w : World) (g : Nat) (a : Option Addr) : Prop := ∀ ad, a = some ad → ad.block ≠ g ∧ ∃ cur fr, w.heap[ad.block]? = some (.cells cur 5 fr)
theorem Lies.upd {w w' : World} {g : Nat} {a : Option Addr} (h : Lies w g a) (hU : Upd (One g) w w') : Lies w' g a := fun ad e => ⟨(h ad e).1, let ⟨cur, fr, hh⟩ := (h ad e).2; ⟨cur, fr, hU.at hh (h ad e).1⟩⟩
theorem Lies.no {w w' : World} {g : Nat} {a : Option Addr} (h : Lies w g a) (hU : Upd No w w') : Lies w' g a := h.upd hU.no
def Gath (w : World) (g : Nat) (s : GS) : Prop := ∃ a c, w.heap[g]? = some (.cells (gcells s a c) 55 (0, 0)) ∧ Bytes w (.slice a s.b.length c) s.b ∧ Lies w g a ∧ s.Ok
theorem Gath.no {w w' : World} {g : Nat} {s : GS} (h : Gath w g s) (hU : Upd No w w') : Gath w' g s := by
  obtain ⟨a, c, h1, h2, h3, h4⟩ := h
  exact ⟨a, c, hU.at h1 (fun h => h), h2.no hU, h3.no hU, h4⟩
/-- A store into a block of another type. -/
theorem Gath.set {w : World} {g k i : Nat} {s : GS} {cs : Array Value} {t : TypeId} {fr : Nat × Nat} {v : Value} (h : Gath w g s) (hk : w.heap[k]? = some (.cells cs t fr)) (ht : t ≠ 5) (hg : k ≠ g) : Gath (w.setCell ⟨k, i, none⟩ v) g s := by
  obtain ⟨a, c, h1, h2, h3, h4⟩ := h
  have hne : ∀ ad, a = some ad → ad.block ≠ k := fun ad e hh => by
    obtain ⟨cur, fr', h⟩ := (h3 ad e).2
    rw [hh, hk] at h
    cases h
    exact ht rfl
  have hU : Upd (One k) w (w.setCell ⟨k, i, none⟩ v) := (Upd.refl (One k) w).setCell (.inr (by simp [One])) _
  refine ⟨a, c, hU.at h1 (fun e => hg e.symm), h2.upd hU (fun b hb => ?_), fun ad e => ⟨(h3 ad e).1, ?_⟩, h4⟩
  · cases a with
    | none => simp [Value.ownBlock] at hb
    | some ad => simp [Value.ownBlock] at hb; subst hb; exact hne ad rfl
  · obtain ⟨cur, fr', h⟩ := (h3 ad e).2
    exact ⟨cur, fr', hU.at h (hne ad e)⟩
theorem Gath.lt {w : World} {g : Nat} {s : GS} (h : Gath w g s) : g < w.heap.size := heap_lt h.choose_spec.choose_spec.1

def GS.new (wait : Nat) : GS := ⟨wait, 0, 0, [], false⟩
theorem new_calls (n : Nat) (h1 : 1 ≤ n) (h2 : n ≤ 1152921504606846976) (w : World) :
    Calls Try.prog 8 #[.int .i64 (n : Int)] w fun e w' => e = .returned (.pointer (some ⟨w.heap.size, 0, none⟩)) ∧ Gath w' w.heap.size (GS.new n) ∧ w' = w.alloc (.cells (gcells (GS.new n) none 0) 55) := by
  go_enter Try.func8, Try.ntmps8
  go_wp2
  · have e : Obj.cells #[Value.int IntKind.i64 (n : Int), Value.int IntKind.i64 0, Value.int IntKind.i64 0, Value.slice none 0 0, Value.bool false] 55 = .cells (gcells (GS.new n) none 0) 55 := rfl
    rw [e]
    go_ret
    exact ⟨rfl, ⟨none, 0, block_new _ _, .inl ⟨rfl, rfl⟩, fun ad h => (by cases h), ⟨h2, by simp [GS.new], by simp [GS.new], by simp [GS.new]⟩⟩, rfl⟩
  · obtain rfl : n = 1 := by omega
    have e : Obj.cells #[Value.int IntKind.i64 1, Value.int IntKind.i64 0, Value.int IntKind.i64 0, Value.slice none 0 0, Value.bool false] 55 = .cells (gcells (GS.new 1) none 0) 55 := rfl
    rw [e]
    go_ret
    exact ⟨rfl, ⟨none, 0, block_new _ _, .inl ⟨rfl, rfl⟩, fun ad h => (by cases h), ⟨h2, by simp [GS.new], by simp [GS.new], by simp [GS.new]⟩⟩, rfl⟩

def GS.lose (s : GS) : GS := { s with b := [], lost := s.lost + 1 }
theorem lose_calls (g : Nat) (s : GS) (w : World) (h : Gath w g s) (hl : s.lost < 1000000000) :
    Calls Try.prog 27 #[.pointer (some ⟨g, 0, none⟩)] w fun e w' => e = .returned (.tuple #[]) ∧ Gath w' g s.lose ∧ Upd (One g) w w' := by
  obtain ⟨a, c, h1, h2, h3, h4⟩ := h
  have hw := h4.wait
  obtain ⟨_, _, he, hlc, hcm, _⟩ := h2.shape
  cases he
  unfold maxLen at hcm
  have hc := cells_at h1
  unfold gcells at hc
  go_enter Try.func27, Try.ntmps27
  go_wp2
  go_end0
  refine ⟨rfl, ⟨a, c, ?_, ?_, ?_, ?_⟩, ?_⟩
  · have := block_set (block_set (i := 3) h1 (.slice a 0 c)) (i := 2) (.int .i64 ((s.lost : Int) + 1))
    rw [this]
    simp [gcells, GS.lose]
  · exact (h2.zero).upd (((Upd.refl (One g) w).setCell (.inr (by simp [One])) _).setCell (.inr (by simp [One])) _) (fun k hk => by
      cases a with
      | none => simp [Value.ownBlock] at hk
      | some ad => simp [Value.ownBlock] at hk; subst hk; exact (h3 ad rfl).1)
  · exact h3.upd (((Upd.refl (One g) w).setCell (.inr (by simp [One])) _).setCell (.inr (by simp [One])) _)
  · exact ⟨h4.wait, h4.began, by simp [GS.lose]; omega, by simp [GS.lose]⟩
  · exact ((Upd.refl (One g) w).setCell (.inr (by simp [One])) _).setCell (.inr (by simp [One])) _
theorem parts_calls (g : Nat) (s : GS) (w : World) (h : Gath w g s) :
    Calls Try.prog 12 #[.pointer (some ⟨g, 0, none⟩)] w fun e w' => e = .returned (.int .i64 (s.b.length / 48 : Nat)) ∧ w' = w := by
  obtain ⟨a, c, h1, h2, h3, h4⟩ := h
  have hb := h4.b
  have hc := cells_at h1
  unfold gcells at hc
  go_enter Try.func12, Try.ntmps12
  go_wp2
  go_ret
  exact ⟨by simp, rfl⟩
theorem lost_calls (g : Nat) (s : GS) (w : World) (h : Gath w g s) :
    Calls Try.prog 15 #[.pointer (some ⟨g, 0, none⟩)] w fun e w' => e = .returned (.int .i64 (s.lost : Int)) ∧ w' = w := by
  obtain ⟨a, c, h1, h2, h3, h4⟩ := h
  have hc := cells_at h1
  unfold gcells at hc
  go_enter Try.func15, Try.ntmps15
  go_wp2
  go_ret
  exact ⟨rfl, rfl⟩
def GS.due (s : GS) (t : Nat) : Bool := !(s.b.isEmpty || decide ((t : Int) - s.began < s.wait))
def GS.tick (s : GS) (t : Nat) : GS := if s.due t then s.lose else s
set_option maxRecDepth 100000 in
set_option maxHeartbeats 1000000 in
theorem tick_calls (g : Nat) (s : GS) (t : Nat) (ht : t ≤ 2305843009213693952) (w : World) (h : Gath w g s) (hl : s.lost < 1000000000) :
    Calls Try.prog 13 #[.pointer (some ⟨g, 0, none⟩), .int .i64 (t : Int)] w fun e w' => e = .returned (.bool (s.due t)) ∧ Gath w' g (s.tick t) ∧ Upd (One g) w w' := by
  obtain ⟨a, c, h1, h2, h3, h4⟩ := id h
  have hbb := h4.b
  have hbe := h4.began
  have hc := cells_at h1
  unfold gcells at hc
  by_cases hb : s.b.length = 0
  · have q1 : ((s.b.length : Int) == 0) = true := by rw [beq_iff_eq]; omega
    have hd : s.due t = false := by simp [GS.due, List.eq_nil_of_length_eq_zero hb]
    have ht : s.tick t = s := by simp [GS.tick, hd]
    rw [hd, ht]
    clear hb hd ht
    go_enter Try.func13, Try.ntmps13
    go_wp2
    go_quiet (fail)
    go_wp2
    go_ret
    exact ⟨rfl, h.no ((Upd.refl _ _).drewN _), (Upd.refl _ _).drewN _⟩
  · have q1 : ((s.b.length : Int) == 0) = false := by rw [beq_eq_false_iff_ne]; omega
    by_cases hd : (t : Int) - s.began < s.wait
    · have q2 : decide ((t : Int) - s.began < s.wait) = true := by simpa using hd
      have hdd : s.due t = false := by simp [GS.due, q2]
      have ht : s.tick t = s := by simp [GS.tick, hdd]
      rw [hdd, ht]
      clear hb hdd ht
      go_enter Try.func13, Try.ntmps13
      go_wp2
      go_quiet (fail)
      go_wp2
      go_ret
      exact ⟨rfl, h.no ((Upd.refl _ _).drewN _), (Upd.refl _ _).drewN _⟩
    · have q2 : decide ((t : Int) - s.began < s.wait) = false := by simpa using hd
      have hdd : s.due t = true := by
        simp only [GS.due, q2, Bool.or_false]
        cases hs : s.b with
        | nil => simp [hs] at hb
        | cons => rfl
      have ht : s.tick t = s.lose := by simp [GS.tick, hdd]
      rw [hdd, ht]
      have HH := Lib.hid h
      clear hb hdd ht h
      go_enter Try.func13, Try.ntmps13
      go_wp2
      go_quiet (fail)
      go_wp2_with (go_at_call 27; refine (lose_calls g s _ (HH.out.no ((Upd.refl _ _).drewN _)) hl).mono ?_; rintro e w1 ⟨rfl, hg1, hU1⟩)
      go_ret
      exact ⟨rfl, hg1, ((Upd.refl _ _).drewN _).trans hU1⟩

theorem add_list1 (l : List UInt8) (n : Nat) (h : n = l.length) : List.take 0 (List.replicate (n + 48) (0 : UInt8)) ++ List.take (min l.length (n + 48)) l ++ List.drop (0 + min l.length (n + 48)) (List.replicate (n + 48) 0) = l ++ List.replicate 48 0 := by
  subst h
  rw [Nat.min_eq_left (by omega), List.take_of_length_le (Nat.le_refl _), List.take_zero, List.nil_append, List.drop_replicate]
  congr 2
  omega
theorem add_list2 (l p : List UInt8) (n : Nat) (h : n = l.length) (hp : p.length = 48) : List.take n (l ++ List.replicate 48 (0 : UInt8)) ++ List.take (min p.length 48) p ++ List.drop (n + min p.length 48) (l ++ List.replicate 48 0) = l ++ p := by
  subst h
  rw [hp, Nat.min_self, List.take_left, List.take_of_length_le (by omega), List.drop_of_length_le (by simp), List.append_nil]
def GS.add (s : GS) (t : Nat) (p : List UInt8) : GS := { s with began := if s.b.length = 0 then t else s.began, b := s.b ++ p }
set_option maxRecDepth 100000 in
set_option maxHeartbeats 1000000 in
theorem add_calls (g : Nat) (s : GS) (t : Nat) (ht : t ≤ 2305843009213693952) (p : List UInt8) (hp : p.length = 48) (w : World) (h : Gath w g s) (hl : s.b.length ≤ 10000) :
    Calls Try.prog 26 #[.pointer (some ⟨g, 0, none⟩), .int .i64 (t : Int), arrV p] w fun e w' => e = .returned (.tuple #[]) ∧ Gath w' g (s.add t p) ∧ Upd (One g) w w' := by
  obtain ⟨a, c, h1, h2, h3, h4⟩ := id h
  have hbb := h4.b
  have hbe := h4.began
  have hc := cells_at (block_old h1 (.cells (rowOf p) 33))
  unfold gcells at hc
  unfold arrV
  have hglt := heap_lt h1
  obtain ⟨n, hn⟩ : ∃ n, n = s.b.length := ⟨_, rfl⟩
  rw [← hn] at hc
  have hnl : n ≤ 10000 := by omega
  have HH := Lib.hid h
  have HN := Lib.hid hn
  have H2 := Lib.hid h2
  have H1 := Lib.hid h1
  clear h hn h2 h1
  have hal := heap_alloc_new w (.cells (rowOf p) 33)
  by_cases h0 : n = 0
  case' pos =>
    have q : ((n : Int) == 0) = true := by rw [beq_iff_eq]; omega
    have H0 := Lib.hid h0
    clear h0
    go_enter Try.func26, Try.ntmps26
    go_wp2_with (with_reducible refine stop_make ?_)
    refine on ?_
    obtain ⟨W, hW⟩ : ∃ W, W = (w.setCell ⟨g, 1, none⟩ (.int .i64 (t : Int))).alloc (.cells (rowOf p) 33) := ⟨_, rfl⟩
    rw [← hW]
    have hU : Upd (One g) w W := by rw [hW]; exact ((Upd.refl (One g) w).setCell (.inr (by simp [One])) _).alloc _
    have hsz : W.heap.size = w.heap.size + 1 := by rw [hW]; simp
    have hg : W.heap[g]? = some (.cells (gcells { s with began := if s.b.length = 0 then t else s.began } a c) 55 (0, 0)) := by
      rw [hW]
      refine block_old ?_ _
      rw [block_set H1.out, ← HN.out, if_pos H0.out]
      rfl
    have hbx : W.heap[w.heap.size]? = some (.cells (rowOf p) 33 (0, 0)) := by
      rw [hW]
      have := heap_alloc_new (w.setCell ⟨g, 1, none⟩ (.int .i64 (t : Int))) (.cells (rowOf p) 33)
      simpa [World.setCell] using this
  case' neg =>
    have q : ((n : Int) == 0) = false := by rw [beq_eq_false_iff_ne]; omega
    have H0 := Lib.hid h0
    clear h0
    go_enter Try.func26, Try.ntmps26
    go_wp2_with (with_reducible refine stop_make ?_)
    refine on ?_
    obtain ⟨W, hW⟩ : ∃ W, W = w.alloc (.cells (rowOf p) 33) := ⟨_, rfl⟩
    rw [← hW]
    have hU : Upd (One g) w W := by rw [hW]; exact (Upd.refl (One g) w).alloc _
    have hsz : W.heap.size = w.heap.size + 1 := by rw [hW]; simp
    have hg : W.heap[g]? = some (.cells (gcells { s with began := if s.b.length = 0 then t else s.began } a c) 55 (0, 0)) := by
      rw [hW]
      refine block_old ?_ _
      rw [← HN.out, if_neg H0.out]
      exact H1.out
    have hbx : W.heap[w.heap.size]? = some (.cells (rowOf p) 33 (0, 0)) := by
      rw [hW]
      exact hal
  all_goals
    have hb : Bytes W (.slice a n c) s.b := by
      rw [HN.out]
      exact H2.out.upd hU (fun k hk => by
        cases a with
        | none => simp [Value.ownBlock] at hk
        | some ad => simp [Value.ownBlock] at hk; subst hk; exact (h3 ad rfl).1)
    have hc2 := cells_at (block_old hg (.cells (rowOf (List.replicate (n + 48) 0)) 5))
    unfold gcells at hc2
    rw [← HN.out] at hc2
    have HB := Lib.hid hb
    have HG := Lib.hid hg
    have HX := Lib.hid hbx
    have HW := Lib.hid hW
    clear hb hg hbx hW hc q
    refine wpList_make_u8 rfl (.tmp 20) (.tmp 20) rfl (n + 48) rfl rfl (by omega) ?_
    go_wp2_with (with_reducible refine stop_builtin .copy ?_)
    refine on (wpList_copy_u8 rfl (.tmp 22) (.tmp 26) rfl (w.heap.size + 1) 0 (n + 48) (n + 48) rfl _ rfl (List.replicate (n + 48) 0) s.b (by rw [← hsz]; exact block_new _ _) (HB.out.no ((Upd.refl _ _).alloc _)) (by rw [List.length_replicate]; omega) ?_)
    intro w2 hg2 hU2
    obtain ⟨L, hL⟩ : ∃ L, L = s.b ++ List.replicate 48 0 := ⟨_, rfl⟩
    rw [add_list1 s.b n HN.out, ← hL] at hg2
    have hLl : L.length = n + 48 := by rw [hL, List.length_append, List.length_replicate, HN.out]
    have hbx2 : w2.heap[w.heap.size]? = some (.cells (rowOf p) 33 (0, 0)) := hU2.at (block_old HX.out _) (by simp [One])
    have hgg2 : w2.heap[g]? = some (.cells (gcells { s with began := if s.b.length = 0 then t else s.began } a c) 55 (0, 0)) := hU2.at (block_old HG.out _) (by simp [One]; omega)
    have hUu : Upd (One g) w w2 := (hU.alloc _).then hU2 (fun i hi e => by simp [One] at e; omega)
    have s6 : ∀ W, (Instr.slice 22 (.slice (some ⟨w.heap.size + 1, 0, none⟩) (n + 48) (n + 48)) (some (.int .i64 (n : Int))) none none).run Try.prog W = .ok (.slice (some ⟨w.heap.size + 1, n, none⟩) 48 48) W := fun W => by
      have := sl_from (b := w.heap.size + 1) (off := 0) (n := n + 48) (cap := n + 48) n (lo := (n : Int)) rfl (by omega) (by omega) (m := 48) (c := 48) (by omega) (by omega) W
      simpa using this
    have H2' := Lib.hid hg2
    have HL := Lib.hid hL
    have HLl := Lib.hid hLl
    have HX2 := Lib.hid hbx2
    have HG2 := Lib.hid hgg2
    clear hU2 hg2 hL hLl hbx2 hgg2 hc2 hal
    go_wp2
    go_region_law (refine step_copy_u8 rfl (.tmp 30) (.tmp 31) rfl (w.heap.size + 1) n 48 48 rfl (.slice (some ⟨w.heap.size, 0, none⟩) 48 48) rfl L p (by exact H2'.out) (by have := Bytes.box (w := w2) (g := w.heap.size) HX2.out (by rw [hp]; unfold maxLen; omega); rw [hp] at this; exact this.no ((Upd.refl _ _).drew)) (by rw [HLl.out, hp]; simp) ?_; intro w3 hg3 hU3)
    have hUv : Upd (One g) w w3 := hUu.drew.then hU3 (fun i hi e => by simp [One] at e; omega)
    have hc3 := cells_at (hU3.at (show w2.drew.heap[g]? = _ from HG2.out) (by simp [One]; omega))
    unfold gcells at hc3
    rw [HL.out, add_list2 _ _ _ HN.out hp] at hg3
    have HG3 := Lib.hid hg3
    have HGg := Lib.hid (hU3.at (show w2.drew.heap[g]? = _ from HG2.out) (by simp [One]; omega))
    clear hg3
    go_wp2
    go_end0
    have hlen : (s.b ++ p).length = n + 48 := by rw [List.length_append, hp, ← HN.out]
    refine ⟨rfl, ⟨some ⟨w.heap.size + 1, 0, none⟩, n + 48, ?_, ?_, ?_, ?_⟩, hUv.setCell (.inr (by simp [One])) _⟩
    · rw [block_set HGg.out]
      simp only [gcells, GS.add, hlen]
      rfl
    · have := Bytes.lit HG3.out (by rw [hlen]; unfold maxLen; omega)
      rw [hlen] at this
      show Bytes _ (.slice _ (s.b ++ p).length _) (s.b ++ p)
      rw [hlen]
      exact this.upd ((Upd.refl (One g) w3).setCell (.inr (by simp [One])) _) (fun k hk => by simp [Value.ownBlock] at hk; simp [One]; omega)
    · intro ad h
      cases h
      exact ⟨by show w.heap.size + 1 ≠ g; omega, _, _, block_other HG3.out (by simp; omega) _⟩
    · exact ⟨h4.wait, by simp only [GS.add]; split <;> omega, h4.lost, by simp only [GS.add, hlen]; omega⟩

end Go.Proofs.Ytddohdfccagbbaa
