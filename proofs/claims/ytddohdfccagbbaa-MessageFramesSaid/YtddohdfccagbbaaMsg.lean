/- message: a message as bytes. -/
import Derived.Test.YtddohdfccagbbaaRows
import Derived.Test.YtddohdfccagbbaaBase
import Derived.Test.YtddohdfccagbbaaBytes
import Derived.Test.YtddohdfccagbbaaElem
namespace Go.Proofs.Ytddohdfccagbbaa
open Go.RowKit Go.Shelf
attribute [local go_sem] Oper.semAt_some

def knownK (k : Int) : Bool := k == 2 || k == 5 || k == 7 || k == 77 || k == 90
def kindsA : Array Value := #[.int .i64 2, .int .i64 5, .int .i64 7, .int .i64 77, .int .i64 90]
theorem idx_run {a : Act} {w : World} {o : Oper} (ho : o.op = .index 79 (.tmp 6) (.tmp 7)) (h6 : a.eval (.tmp 6) = .agg kindsA) (i : Int) (v : Value) (h7 : a.eval (.tmp 7) = .int .i64 i) (h : (i = 0 ∧ v = .int .i64 2) ∨ (i = 1 ∧ v = .int .i64 5) ∨ (i = 2 ∧ v = .int .i64 7) ∨ (i = 3 ∧ v = .int .i64 77) ∨ (i = 4 ∧ v = .int .i64 90)) :
    (execOp a.eval o).run Try.prog w = .ok (.value v) w := by
  rcases h with ⟨rfl, rfl⟩ | ⟨rfl, rfl⟩ | ⟨rfl, rfl⟩ | ⟨rfl, rfl⟩ | ⟨rfl, rfl⟩
  all_goals
    simp only [execOp, ho, h6, h7]
    kernel_rfl
set_option maxRecDepth 100000 in
set_option maxHeartbeats 1000000 in
theorem known_calls (x : Int) (w : World) : Calls Try.prog 35 #[.int .i64 x] w fun e w' => e = .returned (.bool (knownK x)) ∧ w' = w := by
  obtain ⟨r, hr⟩ : ∃ r, r = knownK x := ⟨_, rfl⟩
  rw [← hr]
  have HR := Lib.hid hr
  clear hr
  go_enter Try.func35, Try.ntmps35
  go_wp2
  go_step3
  go_wp2
  go_step3
  go_wp2
  go_loop [3, 5, 7] (fun b _ i => b = .bool false ∧ ((i = .int .i64 0) ∨ (i = .int .i64 1 ∧ Hid ((2 == x) = false)) ∨ (i = .int .i64 2 ∧ Hid ((2 == x) = false ∧ (5 == x) = false)) ∨ (i = .int .i64 3 ∧ Hid ((2 == x) = false ∧ (5 == x) = false ∧ (7 == x) = false)) ∨
    (i = .int .i64 4 ∧ Hid ((2 == x) = false ∧ (5 == x) = false ∧ (7 == x) = false ∧ (77 == x) = false)) ∨ (i = .int .i64 5 ∧ Hid ((2 == x) = false ∧ (5 == x) = false ∧ (7 == x) = false ∧ (77 == x) = false ∧ (90 == x) = false)))) (fun _ _ i => (5 - intOf i).toNat)
  case atStart => exact ⟨rfl, .inl rfl⟩
  case round =>
    obtain ⟨rfl, rfl | ⟨rfl, h⟩ | ⟨rfl, h⟩ | ⟨rfl, h⟩ | ⟨rfl, h⟩ | ⟨rfl, h⟩⟩ := hrel
    · cases h0 : ((2 : Int) == x)
      · have H0 := Lib.hid h0
        go_wp2_with (with_reducible refine stop_dst 9 ?_)
        refine on (wpList_run rfl (idx_run rfl rfl 0 (.int .i64 2) rfl (.inl ⟨rfl, rfl⟩)) ?_)
        go_wp2
        go_round
        case rel => exact ⟨rfl, .inr (.inl ⟨by go_num, Lib.hid (by simp_all)⟩)⟩
        case measure => simp [intOf]
      · have hr : r = true := by rw [HR.out]; simp [knownK]; simp at h0; omega
        have HRR := Lib.hid hr
        clear hr
        go_wp2_with (with_reducible refine stop_dst 9 ?_)
        refine on (wpList_run rfl (idx_run rfl rfl 0 (.int .i64 2) rfl (.inl ⟨rfl, rfl⟩)) ?_)
        go_wp2
        rw [Exit.noGoto_ret]
        go_ret
        exact ⟨by rw [HRR.out]; rfl, rfl⟩
    · cases h0 : ((5 : Int) == x)
      · have H0 := Lib.hid h0
        go_wp2_with (with_reducible refine stop_dst 9 ?_)
        refine on (wpList_run rfl (idx_run rfl rfl 1 (.int .i64 5) rfl (.inr (.inl ⟨rfl, rfl⟩))) ?_)
        go_wp2
        go_round
        case rel => exact ⟨rfl, .inr (.inr (.inl ⟨by go_num, by have h1 := h.out; exact Lib.hid (by simp_all)⟩))⟩
        case measure => simp [intOf]
      · have hr : r = true := by rw [HR.out]; simp [knownK]; simp at h0; omega
        have HRR := Lib.hid hr
        clear hr
        go_wp2_with (with_reducible refine stop_dst 9 ?_)
        refine on (wpList_run rfl (idx_run rfl rfl 1 (.int .i64 5) rfl (.inr (.inl ⟨rfl, rfl⟩))) ?_)
        go_wp2
        rw [Exit.noGoto_ret]
        go_ret
        exact ⟨by rw [HRR.out]; rfl, rfl⟩
    · cases h0 : ((7 : Int) == x)
      · have H0 := Lib.hid h0
        go_wp2_with (with_reducible refine stop_dst 9 ?_)
        refine on (wpList_run rfl (idx_run rfl rfl 2 (.int .i64 7) rfl (.inr (.inr (.inl ⟨rfl, rfl⟩)))) ?_)
        go_wp2
        go_round
        case rel => exact ⟨rfl, .inr (.inr (.inr (.inl ⟨by go_num, by have h1 := h.out; exact Lib.hid (by simp_all)⟩)))⟩
        case measure => simp [intOf]
      · have hr : r = true := by rw [HR.out]; simp [knownK]; simp at h0; omega
        have HRR := Lib.hid hr
        clear hr
        go_wp2_with (with_reducible refine stop_dst 9 ?_)
        refine on (wpList_run rfl (idx_run rfl rfl 2 (.int .i64 7) rfl (.inr (.inr (.inl ⟨rfl, rfl⟩)))) ?_)
        go_wp2
        rw [Exit.noGoto_ret]
        go_ret
        exact ⟨by rw [HRR.out]; rfl, rfl⟩
    · cases h0 : ((77 : Int) == x)
      · have H0 := Lib.hid h0
        go_wp2_with (with_reducible refine stop_dst 9 ?_)
        refine on (wpList_run rfl (idx_run rfl rfl 3 (.int .i64 77) rfl (.inr (.inr (.inr (.inl ⟨rfl, rfl⟩))))) ?_)
        go_wp2
        go_round
        case rel => exact ⟨rfl, .inr (.inr (.inr (.inr (.inl ⟨by go_num, by have h1 := h.out; exact Lib.hid (by simp_all)⟩))))⟩
        case measure => simp [intOf]
      · have hr : r = true := by rw [HR.out]; simp [knownK]; simp at h0; omega
        have HRR := Lib.hid hr
        clear hr
        go_wp2_with (with_reducible refine stop_dst 9 ?_)
        refine on (wpList_run rfl (idx_run rfl rfl 3 (.int .i64 77) rfl (.inr (.inr (.inr (.inl ⟨rfl, rfl⟩))))) ?_)
        go_wp2
        rw [Exit.noGoto_ret]
        go_ret
        exact ⟨by rw [HRR.out]; rfl, rfl⟩
    · cases h0 : ((90 : Int) == x)
      · have H0 := Lib.hid h0
        go_wp2_with (with_reducible refine stop_dst 9 ?_)
        refine on (wpList_run rfl (idx_run rfl rfl 4 (.int .i64 90) rfl (.inr (.inr (.inr (.inr ⟨rfl, rfl⟩))))) ?_)
        go_wp2
        go_round
        case rel => exact ⟨rfl, .inr (.inr (.inr (.inr (.inr ⟨by go_num, by have h1 := h.out; exact Lib.hid (by simp_all)⟩))))⟩
        case measure => simp [intOf]
      · have hr : r = true := by rw [HR.out]; simp [knownK]; simp at h0; omega
        have HRR := Lib.hid hr
        clear hr
        go_wp2_with (with_reducible refine stop_dst 9 ?_)
        refine on (wpList_run rfl (idx_run rfl rfl 4 (.int .i64 90) rfl (.inr (.inr (.inr (.inr ⟨rfl, rfl⟩))))) ?_)
        go_wp2
        rw [Exit.noGoto_ret]
        go_ret
        exact ⟨by rw [HRR.out]; rfl, rfl⟩
    · have hr : r = false := by
        rw [HR.out]
        have := h.out
        simp at this
        simp [knownK]
        omega
      have HRR := Lib.hid hr
      clear hr
      go_wp2
      go_ret
      exact ⟨by rw [HRR.out]; rfl, rfl⟩

/-- A message, as a value. -/
def msgV (ref : Int) (back : Bool) (kind : Int) (v : Value) : Array Value := #[.int .i64 ref, .bool back, .int .i64 kind, v]
def msgRight (ref kind : Int) (L : List Ie) : Bool := decide (1 ≤ ref) && decide (ref ≤ 8388607) && knownK kind && iesFit L
set_option maxRecDepth 100000 in
set_option maxHeartbeats 1000000 in
theorem right_calls (ref : Int) (back : Bool) (kind : Int) (v : Value) (L : List Ie) (w : World) (h : Ies w v L) (hl : L.length ≤ 20) (hb : ∀ x ∈ L, x.2.length ≤ 300) :
    Calls Try.prog 29 #[.agg (msgV ref back kind v)] w fun e w' => e = .returned (.bool (msgRight ref kind L)) ∧ Upd No w w' := by
  unfold msgV
  have hep := fun w' => epack_calls v L w' 
  have HEP := Lib.hid hep
  have HH := Lib.hid h
  have HB := Lib.hid hb
  obtain ⟨f, hf⟩ : ∃ f, f = iesFit L := ⟨_, rfl⟩
  obtain ⟨r, hr⟩ : ∃ r, r = msgRight ref kind L := ⟨_, rfl⟩
  have hr2 : r = (decide (1 ≤ ref) && decide (ref ≤ 8388607) && knownK kind && f) := by rw [hr, hf]; rfl
  rw [← hr]
  have HF := Lib.hid hf
  have HR := Lib.hid hr2
  clear hep h hb hf hr hr2
  go_enter Try.func29, Try.ntmps29
  go_wp2_with fail
  have hbx := block_new w (.cells #[.int .i64 ref, .bool back, .int .i64 kind, v] 45)
  have hU0 : Upd No w (w.alloc (.cells #[.int .i64 ref, .bool back, .int .i64 kind, v] 45)) := (Upd.refl _ _).alloc _
  refine (HEP.out _ (HH.out.no hU0) hl HB.out).mono ?_
  rintro e w1 ⟨v', rfl, _, hU1⟩
  rw [← HF.out]
  have d1 := cells_at (hU1.at hbx (fun h => h))
  have hU := hU0.trans hU1
  clear hbx hU0 hU1
  obtain ⟨k, hk⟩ : ∃ k, k = knownK kind := ⟨_, rfl⟩
  have hkc := known_calls kind w1
  rw [← hk] at hkc
  have HK := Lib.hid hk
  have HKC := Lib.hid hkc
  clear hk hkc
  by_cases g1 : 1 ≤ ref
  case' neg =>
    have q1 : decide (1 ≤ ref) = false := by simpa using (by omega)
    have hr : r = false := by rw [HR.out, q1]; rfl
    have HRR := Lib.hid hr
    clear hr
    cases f
  case' pos =>
    have q1 : decide (1 ≤ ref) = true := by simpa using g1
    by_cases g2 : ref ≤ 8388607
    case' neg =>
      have q2 : decide (ref ≤ 8388607) = false := by simpa using (by omega)
      have hr : r = false := by rw [HR.out, q1, q2]; rfl
      have HRR := Lib.hid hr
      clear hr
      cases f
    case' pos =>
      have q2 : decide (ref ≤ 8388607) = true := by simpa using g2
      cases k
      case' false =>
        have hr : r = false := by rw [HR.out, q1, q2, ← HK.out]; rfl
        have HRR := Lib.hid hr
        clear hr
        cases f
        all_goals
          go_wp2_with fail
          refine HKC.out.mono ?_
          rintro e w2 ⟨rfl, hw2⟩
          subst hw2
      case' true =>
        have hr : r = f := by rw [HR.out, q1, q2, ← HK.out]; rfl
        have HRR := Lib.hid hr
        clear hr
        cases f
        all_goals
          go_wp2_with fail
          refine HKC.out.mono ?_
          rintro e w2 ⟨rfl, hw2⟩
          subst hw2
  all_goals
    go_wp2
    go_ret
    exact ⟨by rw [HRR.out]; rfl, hU⟩

/-! ### message.Pack -/
def refN (ref : Int) (back : Bool) : Nat := ref.toNat + (if back then 8388608 else 0)
def msgBytes (ref : Int) (back : Bool) (kind : Int) (L : List Ie) : List UInt8 :=
  [9, 3, UInt8.ofNat (refN ref back / 65536), UInt8.ofNat (refN ref back / 256), UInt8.ofNat (refN ref back), UInt8.ofNat kind.toNat, 128] ++ two (iesBytes L).length ++ iesBytes L
theorem iesFit_len {L : List Ie} (h : iesFit L = true) : (iesBytes L).length ≤ 204 * 16 := by
  simp only [iesFit, Bool.and_eq_true, decide_eq_true_eq, Bool.not_eq_true', List.any_eq_false] at h
  obtain ⟨h1, h2⟩ := h
  have : ∀ L : List Ie, (∀ x ∈ L, ¬ tooBig x = true) → (iesBytes L).length ≤ 204 * L.length := by
    intro L
    induction L with
    | nil => simp [iesBytes]
    | cons x L ih =>
      intro h
      have h1 := h x (by simp)
      have h2 := ih (fun y hy => h y (by simp [hy]))
      simp only [tooBig, decide_eq_true_eq] at h1
      simp only [iesBytes, List.flatMap_cons, List.length_append, List.length_cons, ieBytes, two, List.length_nil] at h2 ⊢
      omega
  have := this L h2
  omega
set_option maxRecDepth 100000 in
set_option maxHeartbeats 4000000 in
theorem mpack_calls (ref : Int) (back : Bool) (kind : Int) (v : Value) (L : List Ie) (w : World) (h : Ies w v L) (hl : L.length ≤ 20) (hb : ∀ x ∈ L, x.2.length ≤ 300) :
    Calls Try.prog 19 #[.agg (msgV ref back kind v)] w fun e w' => ∃ v' err, e = .returned (.tuple #[v', .int .i64 err]) ∧ Upd No w w' ∧
      ((err ≠ 0 ∧ v' = .slice none 0 0 ∧ ¬ (msgRight ref kind L = true ∧ (msgBytes ref back kind L).length ≤ 1000)) ∨ (err = 0 ∧ msgRight ref kind L = true ∧ (msgBytes ref back kind L).length ≤ 1000 ∧ v' ≠ .slice none 0 0 ∧ OwnB w' w.heap.size v' (msgBytes ref back kind L))) := by
  have hrc := fun w' => right_calls ref back kind v L w'
  unfold msgV at hrc ⊢
  have HRC := Lib.hid hrc
  have HH := Lib.hid h
  have HB := Lib.hid hb
  obtain ⟨r, hr⟩ : ∃ r, r = msgRight ref kind L := ⟨_, rfl⟩
  have HR := Lib.hid hr
  obtain ⟨M, hM⟩ : ∃ M, M = msgBytes ref back kind L := ⟨_, rfl⟩
  rw [← hM]
  have HM := Lib.hid hM
  clear hrc h hb hr hM
  go_enter Try.func19, Try.ntmps19
  have hbx := block_new w (.cells #[.int .i64 ref, .bool back, .int .i64 kind, v] 45)
  have hU0 : Upd No w (w.alloc (.cells #[.int .i64 ref, .bool back, .int .i64 kind, v] 45)) := (Upd.refl _ _).alloc _
  have HBX := Lib.hid hbx
  clear hbx
  go_wp2_with fail
  refine (HRC.out _ (HH.out.no hU0) hl HB.out).mono ?_
  rintro e w1 ⟨rfl, hU1⟩
  rw [← HR.out]
  have d1 := cells_at (hU1.at HBX.out (fun h => h))
  have D1 := Lib.hid (hU1.at HBX.out (fun h => h))
  have hU := hU0.trans hU1
  clear hU0 hU1
  cases r
  · go_wp2
    go_ret2
    exact ⟨_, 1, rfl, hU, .inl ⟨by decide, rfl, fun h => by rw [← HR.out] at h; exact Bool.noConfusion h.1⟩⟩
  · have hfit : iesFit L = true ∧ 1 ≤ ref ∧ ref ≤ 8388607 ∧ knownK kind = true := by
      have := HR.out
      simp only [msgRight] at this
      simp at this
      exact ⟨this.2, this.1.1.1, this.1.1.2, this.1.2⟩
    obtain ⟨hfit, hr1, hr2, hkn⟩ := hfit
    have hlen := iesFit_len hfit
    have hep := epack_calls v L w1 (HH.out.no hU) hl HB.out
    rw [if_pos hfit, if_pos hfit] at hep
    have HFIT := Lib.hid hfit
    have HKN := Lib.hid hkn
    have HEP := Lib.hid hep
    have hk : 0 ≤ kind ∧ kind < 256 := by simp [knownK] at hkn; omega
    clear hfit hkn hep
    go_wp2_with fail
    refine HEP.out.mono ?_
    rintro e w2 ⟨v2, rfl, ho2, hU2⟩
    obtain ⟨a2, c2, hv2, _⟩ := ho2.bytes.shape
    subst hv2
    have d2 := cells_at (hU2.at D1.out (fun h => h))
    have HO2 := Lib.hid ho2
    clear d1 ho2 HEP
    have hU12 := hU.trans hU2
    obtain ⟨N, hN⟩ : ∃ N, N = refN ref back := ⟨_, rfl⟩
    have HN := Lib.hid hN
    have hres : Hid (M = [9, 3, UInt8.ofNat (N / 65536), UInt8.ofNat (N / 256), UInt8.ofNat N, UInt8.ofNat kind.toNat, 128] ++ two (iesBytes L).length ++ iesBytes L) := Lib.hid (by rw [HM.out, msgBytes, hN])
    clear hN
    have hMl : M.length = 9 + (iesBytes L).length := by rw [hres.out]; simp [two]; omega
    have hMb : M.length ≤ 4000 := by omega
    clear HM hMl
    cases back
    all_goals
      go_wp2_with (with_reducible refine stop_builtin .append ?_)
      refine on (wpList_append_e rfl (.tmp 41) (.tmp 42) rfl w (.slice (some ⟨w2.heap.size, 0, none⟩) 9 9) (.slice a2 (iesBytes L).length c2) rfl rfl ([9, 3, UInt8.ofNat (N / 65536), UInt8.ofNat (N / 256), UInt8.ofNat N, UInt8.ofNat kind.toNat, 128] ++ two (iesBytes L).length) (iesBytes L)
        (OwnB.made (l := [9, 3, UInt8.ofNat (N / 65536), UInt8.ofNat (N / 256), UInt8.ofNat N, UInt8.ofNat kind.toNat, 128] ++ two (iesBytes L).length) (g := w2.heap.size) (by have hN := HN.out; simp only [refN] at hN; rw [block_new]; simp [rowOf, byteV, two] at hN ⊢; omega) hU12.size (by simp [two, maxLen]))
        (.inl (HO2.out.bytes.no ((Upd.refl _ _).alloc _))) (by simp [two]; omega) (hU12.alloc _) ?_)
      intro v3 w3 ho3 hU3 _ hn3
      rw [← hres.out] at ho3
      obtain ⟨a3, c3, hv3, _⟩ := ho3.bytes.shape
      have hnn : v3 ≠ .slice none 0 0 := fun h => by
        have := hn3.1 h
        simp at this
      subst hv3
      have HO3 := Lib.hid ho3
      have HNN := Lib.hid hnn
      clear ho3 hn3 hnn d2
      by_cases hbig : 1000 < M.length
      · have q : decide (1000 < (M.length : Int)) = true := by rw [decide_eq_true_eq]; omega
        go_wp2
        go_ret2
        exact ⟨_, 6, rfl, hU3, .inl ⟨by decide, rfl, fun h => by omega⟩⟩
      · have q : decide (1000 < (M.length : Int)) = false := by simpa using (by omega)
        go_wp2
        go_ret2
        exact ⟨.slice a3 M.length c3, 0, rfl, hU3, .inr ⟨rfl, HR.out.symm, by omega, HNN.out, HO3.out⟩⟩
end Go.Proofs.Ytddohdfccagbbaa
