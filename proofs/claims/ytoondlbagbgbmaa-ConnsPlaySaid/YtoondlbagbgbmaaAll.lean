/- conns: All, an iterator: what lies in the slots, collected, sorted, told one by one. -/
import Derived.Test.YtoondlbagbgbmaaRows
import Derived.Test.YtoondlbagbgbmaaBase
import Derived.Test.YtoondlbagbgbmaaProbe
import Derived.Test.YtoondlbagbgbmaaSorted
import Derived.Test.YtoondlbagbgbmaaHome
import Derived.Test.YtoondlbagbgbmaaTab
import Derived.Test.YtoondlbagbgbmaaConns1
import Derived.Test.YtoondlbagbgbmaaCmp
import Derived.Test.YtoondlbagbgbmaaOps
import Derived.Test.YtoondlbagbgbmaaSliceK
import Derived.Test.YtoondlbagbgbmaaSortK
import Derived.Test.YtoondlbagbgbmaaLay
import Derived.Shelf.SlSortCmp.NoneTotal
namespace Go.Proofs.Ytoondlbagbgbmaa
open Go.RowKit Go.Shelf Go.Proofs.Tab
attribute [local go_sem] Oper.semAt_some

theorem all_calls (p : Option Addr) (w : World) : Calls Try.prog 10 #[.pointer p] w fun e w' => e = .returned (.func (.func 26) #[] #[.pointer (some ⟨w.heap.size, 0, none⟩)]) ∧ w' = w.alloc (.cells #[.pointer p] 24) := by
  go_enter Try.func10, Try.ntmps10
  go_wp2
  go_ret
  exact ⟨rfl, rfl⟩

/-- The array of slots, as a value. -/
def slotsArr (S : Nat → Option Ent) : Array Value := ((List.range 128).flatMap (fun i => slotCells (S i))).toArray
theorem slotsArr_load {w : World} {b : Nat} {S : Nat → Option Ent} {len room : Int} (h : TabAt w b S len room) : (loadVar 57 ⟨b, 0, none⟩).run Try.prog w = .ok (.agg (slotsArr S)) w := by
  refine run_loadVar_mid ((List.range 128).flatMap (fun i => slotCells (S i))) (fun j v hv => ?_) Try.underlying57 rfl ?_
  · rw [Nat.zero_add, (cells_at h).1, ← hv]
    have hj := (List.getElem?_eq_some_iff.1 hv).1
    simp only [tabRow, List.getElem?_toArray, tabList]
    rw [List.getElem?_append_left hj]
  · rw [flat_length _ (fun i => slotCells_length _), List.length_range]; kernel_rfl
theorem slotsArr_index (S : Nat → Option Ent) (i : Nat) (hi : i < 128) (w : World) : (Instr.index 57 (.agg (slotsArr S)) (.int .i64 (i : Int))).run Try.prog w = .ok (.agg (slotCells (S i)).toArray) w := by
  have hs : (sizeOf 56).run Try.prog w = .ok 5 w := by kernel_rfl
  have ha : (isAgg 56).run Try.prog w = .ok true w := by kernel_rfl
  have hu := run_underlying Try.underlying57 w
  have hx : (slotsArr S).extract (i * 5) (i * 5 + 5) = (slotCells (S i)).toArray := by
    apply Array.ext_getElem?
    intro j
    rw [Array.getElem?_extract]
    have hsz : (slotsArr S).size = 640 := by simp only [slotsArr, List.size_toArray]; rw [flat_length _ (fun i => slotCells_length _), List.length_range]
    by_cases hj : j < 5
    · rw [if_pos (by omega)]
      simp only [slotsArr, List.getElem?_toArray]
      rw [Nat.mul_comm i 5, flat_get _ (fun i => slotCells_length _) _ _ _ hj]
      simp [hi]
    · rw [if_neg (by omega)]
      simp only [List.getElem?_toArray]
      rw [List.getElem?_eq_none (by rw [slotCells_length]; omega)]
  have h0 : 0 ≤ (i : Int) ∧ (i : Int) < ((128 : Nat) : Int) := by omega
  simp only [Instr.index, asIntOf, Sem.run_bind, Sem.run_pure, Result.andThen_ok, hu, Sem.run_ite]
  rw [if_pos h0]
  simp only [Sem.run_bind, hs, Result.andThen_ok, part, ha, if_true, Sem.run_pure, Int.toNat_natCast, hx]

theorem slotT : ElT Try.prog 62 56 5 40 := ElT.of (z := .agg #[.int .i64 0, .int .i64 0, .int .i64 0, .int .i64 0, .bool false]) Try.underlying62 (by kernel_rfl) rfl (by omega) (by omega)
theorem slotEnc : EncK slotE 5 := ⟨fun _ => rfl, fun x v hv => by simp [slotE] at hv; rcases hv with rfl | rfl | rfl | rfl | rfl <;> rfl⟩
/-- Those in use among the first ones. -/
def usedTo (S : Nat → Option Ent) (i : Nat) : List Ent := (List.range i).filterMap S
theorem usedTo_none {S : Nat → Option Ent} {i : Nat} (h : S i = none) : usedTo S (i + 1) = usedTo S i := by simp [usedTo, List.range_succ, h]
theorem usedTo_some {S : Nat → Option Ent} {i : Nat} {e : Ent} (h : S i = some e) : usedTo S (i + 1) = usedTo S i ++ [e] := by simp [usedTo, List.range_succ, h]
theorem usedTo_len (S : Nat → Option Ent) (i : Nat) : (usedTo S i).length ≤ i := by
  have := List.length_filterMap_le S (List.range i)
  rw [List.length_range] at this
  exact this
theorem mem_usedTo {S : Nat → Option Ent} {e : Ent} : e ∈ usedTo S 128 ↔ Holds S e := by
  simp only [usedTo, List.mem_filterMap, List.mem_range]
  exact Iff.rfl
def slotKeep : Nat → Obj → Prop := fun _ o => ∃ c m, o = .cells c 56 m
def entV (e : Ent) : Array Value := #[.agg #[.int .i64 e.1.1, .int .i64 e.1.2.1, .int .i64 e.1.2.2], .int .i64 e.2]

theorem slots_swo : Go.Sort.SWO (ltOf fun a b : Ent => cmpK a.1 b.1) := by
  have h : ∀ a b : Ent, ltOf (fun a b : Ent => cmpK a.1 b.1) a b = before a.1 b.1 := fun a b => cmpK_lt a.1 b.1
  constructor
  · intro x; rw [h]; exact before_irrefl _
  · intro x y z; rw [h, h, h]; exact before_trans
  · intro x y z
    rw [h, h, h]
    intro h1 h2
    rw [Bool.eq_false_iff] at *
    intro h3
    rw [Ne, before_iff] at *
    omega
theorem sortSlots (base : Nat) (v : Value) (l : List Ent) (w : World) (h : OwnK slotE 56 5 w base v l) (hl : l.length ≤ 128) :
    Calls Try.prog 27 #[v, .func (.func 28) #[] #[]] w fun e w' => e = .returned (.tuple #[]) ∧ ∃ l', l'.Perm l ∧ l'.Pairwise (fun a b => before b.1 a.1 = false) ∧ OwnK slotE 56 5 w' base v l' ∧ Upd (fun k => v.ownBlock = some k) w w' := by
  rcases h.form with ⟨rfl, rfl⟩ | ⟨g, cap, rfl, hc, hm, hb, hg⟩
  · refine Calls.mono (AnyF.slices_SortFunc_none (P := Try.prog) Try.sortSlot none 0 (.func (.func 28) #[] #[]) w) ?_
    rintro e w' ⟨he, rfl⟩
    exact ⟨he, [], List.Perm.refl _, List.Pairwise.nil, h, Upd.refl _ _⟩
  · obtain ⟨h1, h2, _⟩ := h.holds slotEnc (by omega)
    have eg : ∀ args w, (callFunc 28 args).run Try.prog w = .ok (.enter 28 args) w := enters_of Try.func28 (by kernel_rfl) rfl
    have hcmp := cmpLays_of (P := Try.prog) (k := 5) (enc := slotE) (g := 28) (cb := #[]) (cf := fun a b : Ent => cmpK a.1 b.1) (fun x y W => slots_compare x y W) g 0 l.toArray.size w
    have hcon := AnyQ.slices_SortFunc (P := Try.prog) Try.sortSlot 5 (fun w => by kernel_rfl) (fun w => by kernel_rfl) slotE slotEnc.len slotEnc.one (fun a b : Ent => cmpK a.1 b.1) slots_swo 28 #[] g 0 cap l.toArray w eg hcmp h1 h2 (by simp only [List.size_toArray]; omega)
    refine Calls.mono hcon ?_
    rintro e w' ⟨he, d', n, os, hp, hs, rfl⟩
    obtain ⟨hp1, hp2⟩ := perm_of hp
    refine ⟨he, d'.toList, hp2, ?_, ?_, (sort_upd w g 0 n d' os).mono (fun k _ hk => by rw [show k = g from hk]; rfl)⟩
    · have := sorted_of (n := l.toArray.size) hp1 hs
      exact this.imp (fun {a b} hab => by rw [← cmpK_lt]; exact hab)
    · exact h.sorted slotEnc (by omega) (by simpa using hp1) os
set_option maxRecDepth 100000 in
set_option maxHeartbeats 1000000 in
theorem all1_in (l B b : Nat) (S : Nat → Option Ent) (len room : Int) (xs : List Ent) (J Jx : List Ent → World → Prop)
    (hY : ∀ pre x post W1, xs = pre ++ x :: post → J pre W1 → YieldAt Fence.wide 9 Try.prog l (entV x) W1 fun e W' =>
      (e = .returned (.bool true) ∧ J (pre ++ [x]) W' ∧ Keeps slotKeep W1 W') ∨ (e = .returned (.bool false) ∧ Jx (pre ++ [x]) W'))
    (hxs : ∀ l' : List Ent, l'.Perm (usedTo S 128) → l'.Pairwise (fun a b => before b.1 a.1 = false) → l' = xs)
    (W : World) (hB : W.cell? ⟨B, 0, none⟩ = some (.pointer (some ⟨b, 0, none⟩))) (hT : TabAt W b S len room) (hJ : OwnFrom W.heap.size J) (h0 : J [] W) :
    CallsIn Fence.wide 9 Try.prog 26 #[.func (.yield l) #[] #[], .pointer (some ⟨B, 0, none⟩)] W fun e W' => (∃ v, e = .returned v) ∧
      (J xs W' ∨ ∃ pre, pre <+: xs ∧ Jx pre W') := by
  have hld := slotsArr_load hT
  have HLD := Lib.hid hld
  have HT := Lib.hid hT
  clear hld hT
  refine callsIn_of_wp Try.func26 rfl trivial ?_ rfl
  simp only [Try.ntmps26, List.size_toArray, List.length_cons, List.length_nil, Nat.reduceAdd, Nat.reduceSub, Array.replicate_succ, Array.replicate_zero, List.push_toArray, List.append_toArray, List.nil_append, List.cons_append]
  gi_wp2_with (with_reducible refine gstop_dst 13 ?_)
  refine on (wpListIn_run rfl (fun c h => Op.noConfusion h) (about_load rfl) (exec_load rfl rfl HLD.out) ?_)
  gi_wp2
  gi_loopw [3, 14] (fun v i wr => ∃ k : Nat, k ≤ 128 ∧ i = .int .i64 (k : Int) ∧ OwnK slotE 56 5 wr W.heap.size v (usedTo S k) ∧ Upd No W wr)
    (fun _ i _ => 128 - (intOf i).toNat)
  case atStart => exact ⟨0, by omega, rfl, OwnK.nil _ _, Upd.refl _ _⟩
  case round =>
    obtain ⟨k, hk, rfl, hown, hnx⟩ := hrel
    by_cases hlt : k < 128
    · have hix := slotsArr_index S k hlt
      have HOWN := Lib.hid hown
      have hul := usedTo_len S k
      clear hown
      cases hs : S k with
      | none =>
        rw [hs] at hix
        simp only [slotCells] at hix
        have HS := Lib.hid hs
        clear hs
        gi_wp2
        refine ⟨⟨k + 1, by omega, by go_num, ?_, hnx.alloc _⟩, ?_⟩
        · rw [usedTo_none HS.out]; exact HOWN.out.keep ((Upd.refl No wr).alloc _) (fun _ _ h => h)
        · simp [intOf]; omega
      | some e =>
        obtain ⟨ek, en⟩ := e
        rw [hs] at hix
        simp only [slotCells] at hix
        have HS := Lib.hid hs
        clear hs
        gi_wp2_with (with_reducible refine gstop_builtin .append ?_)
        have hW2 : Upd No wr _ := ((Upd.refl No wr).alloc (.cells #[.int .i64 ek.1, .int .i64 ek.2.1, .int .i64 ek.2.2, .int .i64 en, .bool true] 56)).alloc (.cells #[.int .i64 ek.1, .int .i64 ek.2.1, .int .i64 ek.2.2, .int .i64 en, .bool true] 56)
        have hown2 := HOWN.out.keep hW2 (fun _ _ h => h)
        have HOWN2 := Lib.hid hown2
        clear hown2
        refine on (wpListIn_app_k slotT slotEnc rfl (.tmp 19) (.tmp 21) rfl W.heap.size _ _ (usedTo S k) [(ek, en)] rfl rfl HOWN2.out (SlK.one slotEnc (x := (ek, en)) (block_new2 wr _ _)) (by simp only [List.length_cons, List.length_nil]; omega) (Nat.le_trans hnx.size hW2.size) ?_)
        intro v' w' hown' hgr
        have hU' : Upd No W w' := HOWN2.out.grown (hnx.trans hW2) hgr (Nat.le_refl _)
        have HOWN' := Lib.hid hown'
        clear hown' hgr
        gi_wp2
        refine ⟨⟨k + 1, by omega, by go_num, ?_, hU'⟩, ?_⟩
        · rw [usedTo_some HS.out]; exact HOWN'.out
        · simp [intOf]; omega
    · obtain rfl : k = 128 := by omega
      have HOWN := Lib.hid hown
      clear hown hk hlt
      gi_wp2
      refine ⟨trivial, (to_wide (sortSlots _ _ _ _ HOWN.out (usedTo_len S 128))).mono ?_⟩
      rintro e w2 ⟨rfl, l', hperm, hpw, hown2, hU2⟩
      obtain rfl := hxs l' hperm hpw
      have hUW : Upd No W w2 := by
        refine hnx.then hU2 (fun i hi hk => ?_)
        have := (HOWN.out.ge i hk).1
        omega
      have hJ2 : J [] w2 := hJ _ _ _ none h0 ⟨hUW.os, hUW.tape, hUW.output, hUW.size, fun k hk _ => hUW.block k hk (fun h => h)⟩ (fun k h => by cases h)
      have hlen : l'.length ≤ 128 := by rw [hperm.length_eq]; exact usedTo_len S 128
      have HOWN2 := Lib.hid hown2
      have HUW := Lib.hid hUW
      clear hown2 hU2 hpw hperm hUW
      rcases HOWN2.out.form with ⟨hv, hl⟩ | ⟨g, cap, hv, hc, hm, hb2, hg2⟩
      · subst hl
        rw [hv]
        have HV := Lib.hid hv
        clear hv
        gi_wp2
        gi_loopw [28] (fun i wr => i = .int .i64 0 ∧ J [] wr) (fun _ _ => 0)
        case atStart => exact ⟨rfl, hJ2⟩
        case round =>
          obtain ⟨rfl, hJs⟩ := hrel
          gi_wp2
          go_end0
          exact ⟨⟨_, rfl⟩, .inl hJs⟩
      · rw [hv] at HOWN2
        rw [hv]
        have HV := Lib.hid hv
        clear hv
        gi_wp2
        have hcap : cap ≤ 9223372036854775807 := by unfold maxLen at hm; omega
        gi_loopw [28] (fun i wr => ∃ k : Nat, k ≤ l'.length ∧ i = .int .i64 (k : Int) ∧ J (l'.take k) wr ∧ OwnK slotE 56 5 wr W.heap.size (.slice (some ⟨g, 0, none⟩) l'.length cap) l') (fun i _ => l'.length - (intOf i).toNat)
        case atStart => exact ⟨0, Nat.zero_le _, rfl, by simpa using hJ2, HOWN2.out⟩
        case round =>
          obtain ⟨k, hk, rfl, hJs, hownr⟩ := hrel
          have HOWNR := Lib.hid hownr
          by_cases hlt : k < l'.length
          · have hx : l'[k]? = some l'[k] := List.getElem?_eq_getElem hlt
            obtain ⟨x, hxx⟩ : ∃ x, x = l'[k] := ⟨_, rfl⟩
            rw [← hxx] at hx
            have hcl := ((hownr.sl slotEnc).at slotEnc).2.2.2.2 k x hx
            have c0 : wr.cell? ⟨g, k * 5, none⟩ = some (.int .i64 x.1.1) := by have := hcl 0 (by omega); simpa [slotE] using this
            have c1 : wr.cell? ⟨g, k * 5 + 1, none⟩ = some (.int .i64 x.1.2.1) := by have := hcl 1 (by omega); simpa [slotE] using this
            have c2 : wr.cell? ⟨g, k * 5 + 2, none⟩ = some (.int .i64 x.1.2.2) := by have := hcl 2 (by omega); simpa [slotE] using this
            have c3 : wr.cell? ⟨g, k * 5 + 3, none⟩ = some (.int .i64 x.2) := by have := hcl 3 (by omega); simpa [slotE] using this
            have c4 : wr.cell? ⟨g, k * 5 + 4, none⟩ = some (.bool true) := by have := hcl 4 (by omega); simpa [slotE] using this
            have hsplit : l' = l'.take k ++ x :: l'.drop (k + 1) := by rw [hxx, List.getElem_cons_drop, List.take_append_drop]
            have htake : l'.take k ++ [x] = l'.take (k + 1) := by rw [hxx, List.take_succ_eq_append_getElem hlt]
            have hJ3 : J (l'.take k) (wr.alloc (.cells #[.int .i64 x.1.1, .int .i64 x.1.2.1, .int .i64 x.1.2.2, .int .i64 x.2, .bool true] 56)) := hJ.alloc _ hJs
            obtain ⟨fn, tmps, assign, body, hy, hR⟩ := hY _ x _ _ hsplit hJ3
            rw [htake] at hR
            simp only [entV] at hy
            have HSP := Lib.hid hsplit
            have HX := Lib.hid hx
            have HXX := Lib.hid hxx
            clear hcl hxx hsplit htake hx hownr hJs hJ3 hJ2
            gi_wp2
            refine (round_any hR).mono ?_
            rintro e W3 (⟨rfl, hJ3, hk3⟩ | ⟨rfl, hJx3⟩)
            · gi_wp2
              refine ⟨⟨k + 1, by omega, by go_num, hJ3, ?_⟩, ?_⟩
              · refine HOWNR.out.keepObj (fun g' cur hg' ho => ?_)
                exact hk3 _ _ ⟨cur, _, rfl⟩ (block_old ho _)
              · simp [intOf]; omega
            · gi_wp2
              refine bodyPost_ret (results_none rfl _ _ _) rfl ?_
              exact ⟨⟨_, rfl⟩, .inr ⟨_, List.take_prefix _ _, hJx3⟩⟩
          · obtain rfl : k = l'.length := by omega
            rw [List.take_length] at hJs
            clear hk hlt hownr hJ2
            gi_wp2
            go_end0
            exact ⟨⟨_, rfl⟩, .inl hJs⟩
theorem all1_nil (l B : Nat) (J : List Ent → World → Prop) (W : World) (hB : W.cell? ⟨B, 0, none⟩ = some (.pointer none)) (h0 : J [] W) :
    CallsIn Fence.wide 9 Try.prog 26 #[.func (.yield l) #[] #[], .pointer (some ⟨B, 0, none⟩)] W fun e W' => (∃ v, e = .returned v) ∧ J [] W' := by
  refine callsIn_of_wp Try.func26 rfl trivial ?_ rfl
  simp only [Try.ntmps26, List.size_toArray, List.length_cons, List.length_nil, Nat.reduceAdd, Nat.reduceSub, Array.replicate_succ, Array.replicate_zero, List.push_toArray, List.append_toArray, List.nil_append, List.cons_append]
  gi_wp2
  refine bodyPost_ret (results_none rfl _ _ _) rfl ?_
  exact ⟨⟨_, rfl⟩, h0⟩
/-- All, as an iterator: of a table, its entries in order. -/
theorem all_iter (B b : Nat) (room : Int) (M : List Ent) (w : World) (hB : w.cell? ⟨B, 0, none⟩ = some (.pointer (some ⟨b, 0, none⟩))) (hT : TabIs w b room M) :
    Iter Try.prog 26 #[.pointer (some ⟨B, 0, none⟩)] entV slotKeep M w := by
  intro l J Jx W hW hJ _ hY h0
  have hc := hW.cell hB (by simp [No])
  obtain ⟨S, h1, h2, h3, h4, _⟩ := hT.upd hW (fun h => h)
  refine all1_in l B b S _ room M J Jx hY (fun l' hp hs => ?_) W hc h1 hJ h0
  have hmem : ∀ e, e ∈ l' ↔ e ∈ M := fun e => by rw [hp.mem_iff, mem_usedTo, h3 e]
  refine sorted_ext (key := Prod.fst) ?_ h4 hmem
  have hnd : l'.Nodup := by
    rw [hp.nodup_iff]
    unfold usedTo
    rw [List.Nodup, List.pairwise_filterMap]
    refine List.Pairwise.imp_of_mem ?_ (List.nodup_range (n := 128))
    intro a b ha hb hab x hx y hy hxy
    rw [List.mem_range] at ha hb
    subst hxy
    exact hab (h2.uniq a b x x ha hb hx hy rfl)
  refine List.Pairwise.imp_of_mem ?_ (List.Pairwise.and hs hnd)
  intro a b ha hb ⟨h5, h6⟩
  rcases before_total (a := a.1) (b := b.1) (fun hk => h6 (sorted_uniq h4 a b ((hmem a).1 ha) ((hmem b).1 hb) hk)) with h | h
  · exact h
  · rw [h] at h5; cases h5
theorem all_iter_nil (B : Nat) (w : World) (hB : w.cell? ⟨B, 0, none⟩ = some (.pointer none)) :
    Iter Try.prog 26 #[.pointer (some ⟨B, 0, none⟩)] entV slotKeep [] w := by
  intro l J Jx W hW hJ _ hY h0
  exact (all1_nil l B J W (hW.cell hB (by simp [No])) h0).mono fun e W' ⟨he, hj⟩ => ⟨he, .inl hj⟩
end Go.Proofs.Ytoondlbagbgbmaa
