/- trunklinelaw09.awake answers true; of a nil table there is nothing. -/
import Derived.Test.YtoondlbagbgbmaaRows
import Derived.Test.YtoondlbagbgbmaaBase
import Derived.Test.YtoondlbagbgbmaaProbe
import Derived.Test.YtoondlbagbgbmaaSorted
import Derived.Test.YtoondlbagbgbmaaTab
import Derived.Test.YtoondlbagbgbmaaConns1
import Derived.Test.YtoondlbagbgbmaaGet
import Derived.Test.YtoondlbagbgbmaaPut
import Derived.Test.YtoondlbagbgbmaaDrop
import Derived.Test.YtoondlbagbgbmaaLaw9
namespace Go.Proofs.Ytoondlbagbgbmaa
open Go.RowKit Go.Shelf Go.Proofs.Tab
attribute [local go_sem] Oper.semAt_some

/-- Put with a known answer. -/
theorem put_is {b : Nat} {room : Int} {M : List Ent} {k : Key} {n : Int} {c : Int} {M' : List Ent} (h : putOf room M k n = (c, M')) (w : World) (hT : TabIs w b room M) : Calls Try.prog 9 #[.pointer (some ⟨b, 0, none⟩), .agg #[.int .i64 k.1, .int .i64 k.2.1, .int .i64 k.2.2], .int .i64 n] w fun e w' => e = .returned (.int .i64 c) ∧ Upd (One b) w w' ∧ TabIs w' b room M' := by
  have := put_calls b room M k n w hT
  rw [h] at this
  exact this
theorem get_is {b : Nat} {room : Int} {M : List Ent} {k : Key} {o : Option Ent} (h : lookK Prod.fst M k = o) (w : World) (hT : TabIs w b room M) : Calls Try.prog 19 #[.pointer (some ⟨b, 0, none⟩), .agg #[.int .i64 k.1, .int .i64 k.2.1, .int .i64 k.2.2]] w fun e w' => e = .returned (.tuple #[.int .i64 ((o.map Prod.snd).getD 0), .bool o.isSome]) ∧ Upd No w w' := by
  have := get_calls b room M k w hT
  rw [h] at this
  exact this
set_option maxRecDepth 100000 in
set_option maxHeartbeats 1000000 in
theorem awake9 (w : World) : Calls Try.prog 7 #[] w fun e w' => e = .returned (.bool true) ∧ Upd No w w' := by
  obtain ⟨b, hb⟩ : ∃ b, b = w.heap.size := ⟨_, rfl⟩
  have hnew := new_calls 2 w
  rw [← hb, show max 0 (min (2 : Int) 64) = 2 from by omega] at hnew
  have p1 := @put_is b 2 [] (1, 0, 32) 7 0 [((1, 0, 32), 7)] (by decide)
  have p2 := @put_is b 2 [((1, 0, 32), 7)] (0, 9, 40) 8 0 [((0, 9, 40), 8), ((1, 0, 32), 7)] (by decide)
  have p3 := @put_is b 2 [((0, 9, 40), 8), ((1, 0, 32), 7)] (0, 0, 0) 1 9 [((0, 9, 40), 8), ((1, 0, 32), 7)] (by decide)
  have g1 := @get_is b 2 [((0, 9, 40), 8), ((1, 0, 32), 7)] (1, 0, 32) (some ((1, 0, 32), 7)) (by decide)
  have HNEW := Lib.hid hnew
  have P1 := Lib.hid p1
  have P2 := Lib.hid p2
  have P3 := Lib.hid p3
  have G1 := Lib.hid g1
  have HB := Lib.hid hb
  clear hnew p1 p2 p3 g1 hb
  go_enter Try.func7, Try.ntmps7
  go_wp2_with fail
  refine (HNEW.out).mono ?_
  rintro e w1 ⟨rfl, hU1, hT1⟩
  have T1 := Lib.hid hT1
  clear hT1
  go_wp2_with fail
  refine (P1.out _ T1.out).mono ?_
  rintro e w2 ⟨rfl, hU2, hT2⟩
  have T2 := Lib.hid hT2
  clear hT2
  go_wp2_with fail
  refine (P2.out _ T2.out).mono ?_
  rintro e w3 ⟨rfl, hU3, hT3⟩
  have T3 := Lib.hid hT3
  clear hT3
  go_wp2_with fail
  refine (G1.out _ T3.out).mono ?_
  rintro e w4 ⟨rfl, hU4⟩
  have T4 := Lib.hid (T3.out.upd hU4 (fun h => h))
  simp only [Option.map, Option.getD, Option.isSome]
  go_wp2_with fail
  refine (len_calls _ _ _ _ T4.out).mono ?_
  rintro e w5 ⟨rfl, rfl⟩
  simp only [List.length_cons, List.length_nil]
  go_wp2_with fail
  refine (P3.out _ T4.out).mono ?_
  rintro e w6 ⟨rfl, hU6, hT6⟩
  clear hT6
  go_wp2_with fail
  go_ret
  refine ⟨rfl, ?_⟩
  have hx : Upd (One b) w w6 := (((((hU1.no).trans hU2).trans hU3).trans hU4.no)).trans hU6
  exact hx.mono (fun k hk h => by rw [show k = b from h, HB.out] at hk; omega)
end Go.Proofs.Ytoondlbagbgbmaa
