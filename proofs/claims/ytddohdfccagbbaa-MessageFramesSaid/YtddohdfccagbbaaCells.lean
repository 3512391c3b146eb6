/- frame.Cells: a frame's parts, one by one. -/
import Derived.Test.YtddohdfccagbbaaRows
import Derived.Test.YtddohdfccagbbaaBase
import Derived.Test.YtddohdfccagbbaaBytes
namespace Go.Proofs.Ytddohdfccagbbaa
open Go.RowKit Go.Shelf
attribute [local go_sem] Oper.semAt_some

/-- An array of bytes, as a value. -/
def arrV (p : List UInt8) : Value := .agg (rowOf p)
section
variable {P : Program} {o : Oper} {a : Act} {w : World} {v : Value}
theorem exec_load {t : TypeId} {x : Operand} {ad : Addr} (ho : o.op = .load t x) (hx : a.eval x = .pointer (some ad)) (hr : (loadVar t ad).run P w = .ok v w) : (execOp a.eval o).run P w = .ok (.value v) w := by
  simp only [execOp, ho, hx, Instr.loadAt, Instr.sureAddr, Sem.run_bind, Sem.run_pure, Result.andThen_ok, hr]
theorem about_load {t : TypeId} {x : Operand} (ho : o.op = .load t x) : o.about P w a.eval = none := by simp [Oper.about, ho]
/-- A whole array or struct out of the middle of a block. -/
theorem run_loadVar_mid {b off : Nat} {ty : TypeId} {d : TypeDesc} (cs : List Value) (hc : ∀ j v, cs[j]? = some v → w.cell? ⟨b, off + j, none⟩ = some v)
    (hu : P.underlying ty = some d) (hd : (match d with | .struct _ | .array _ _ => true | _ => false) = true) (hi : (P.info? ty).map (·.size) = some cs.length) :
    (loadVar ty ⟨b, off, none⟩).run P w = .ok (.agg cs.toArray) w := by
  have hl := run_loadCells_list (P := P) w ⟨b, off, none⟩ cs (fun j v hv => by
    have hadd : (⟨b, off, none⟩ : Addr).add j = ⟨b, off + j, none⟩ := by unfold Addr.add; split <;> simp_all
    rw [hadd]
    exact hc j v hv)
  cases hq : P.info? ty with
  | none => simp [hq] at hi
  | some i =>
    have hs : i.size = cs.length := by simpa [hq] using hi
    have hagg : (isAgg ty).run P w = .ok true w := by
      unfold isAgg
      rw [Sem.run_bind, run_underlying hu w]
      cases d <;> simp_all
    simp [loadVar, Sem.run_bind, hagg, sizeOf, typeInfo, hq, hs, hl]
end
theorem run_load48 {w : World} {b off : Nat} {p : List UInt8} (hp : p.length = 48) (hc : ∀ j, j < 48 → w.cell? ⟨b, off + j, none⟩ = some (.int .u8 ((p[j]?.getD 0).toNat : Int))) :
    (loadVar 33 ⟨b, off, none⟩).run Try.prog w = .ok (arrV p) w := by
  refine run_loadVar_mid (p.map byteV) (fun j v hv => ?_) Try.underlying33 rfl (by rw [List.length_map, hp]; kernel_rfl)
  have hj : j < p.length := by
    have := (List.getElem?_eq_some_iff.1 hv).1
    simpa using this
  rw [hc j (by omega), ← hv]
  simp [hj]

/-- What Cells tells: each part, and whether it is the last one. -/
def chunk (l : List UInt8) (k : Nat) : List UInt8 × Bool := ((l.drop (48 * k)).take 48, l.length - 48 * k == 48)
def chunks (l : List UInt8) : List (List UInt8 × Bool) := (List.range (l.length / 48)).map (chunk l)
theorem chunks_take (l : List UInt8) (k : Nat) (hk : k < l.length / 48) : chunks l = (chunks l).take k ++ chunk l k :: (chunks l).drop (k + 1) ∧ (chunks l).take (k + 1) = (chunks l).take k ++ [chunk l k] := by
  have hlen : (chunks l).length = l.length / 48 := by simp [chunks]
  have hg : (chunks l)[k]'(by omega) = chunk l k := by simp [chunks]
  constructor
  · rw [← hg, List.getElem_cons_drop, List.take_append_drop]
  · rw [List.take_succ_eq_append_getElem (by omega), hg]
def cellEnc (x : List UInt8 × Bool) : Array Value := #[arrV x.1, .bool x.2]

theorem cells_calls (a : Option Addr) (n c : Nat) (w : World) :
    Calls Try.prog 10 #[.slice a n c] w fun e w' => e = .returned (.func (.func 25) #[] #[.pointer (some ⟨w.heap.size, 0, none⟩)]) ∧ w' = w.alloc (.cells #[.slice a n c] 22) := by
  go_enter Try.func10, Try.ntmps10
  go_wp2
  go_ret
  exact ⟨rfl, rfl⟩

theorem sl_48 {b off n cap : Nat} (hn : 48 ≤ n) (hc : n ≤ cap) (W : World) :
    (Instr.slice 22 (.slice (some ⟨b, off, none⟩) n cap) (some (.int .i64 48)) none none).run Try.prog W = .ok (.slice (some (if cap = 48 then ⟨b, off, none⟩ else ⟨b, off + 48, none⟩)) (n - 48) (cap - 48)) W := by
  by_cases h : cap = 48
  · have := run_slice_l W 22 (some ⟨b, off, none⟩) n cap Try.underlying22 .i64 48 (by omega) (by omega)
    rw [this]
    have hs : (sizeOf (Try.prog.elem 22)).run Try.prog W = .ok 1 W := by kernel_rfl
    rw [hs]
    simp [Result.andThen, sliced, h]
  · rw [if_neg h, sl_from (b := b) (off := off) (n := n) (cap := cap) 48 (lo := 48) rfl hn (by omega) rfl rfl]

set_option maxRecDepth 100000 in
set_option maxHeartbeats 1000000 in
theorem cells1_in (l Bs b off cap : Nat) (bs : List UInt8) (J Jx : List (List UInt8 × Bool) → World → Prop) (S : Nat → Obj → Prop) (hSb : ∀ o, S b o)
    (hY : ∀ pre x post W1, chunks bs = pre ++ x :: post → J pre W1 → YieldAt Fence.wide 9 Try.prog l (cellEnc x) W1 fun e W' =>
      (e = .returned (.bool true) ∧ J (pre ++ [x]) W' ∧ Keeps S W1 W') ∨ (e = .returned (.bool false) ∧ Jx (pre ++ [x]) W'))
    (hl : bs.length ≤ cap) (hc : cap ≤ maxLen)
    (W : World) (hBs : W.cell? ⟨Bs, 0, none⟩ = some (.slice (some ⟨b, off, none⟩) bs.length cap)) (hcell : ∀ j, j < bs.length → W.cell? ⟨b, off + j, none⟩ = some (.int .u8 ((bs[j]?.getD 0).toNat : Int))) (h0 : J [] W) :
    CallsIn Fence.wide 9 Try.prog 25 #[.func (.yield l) #[] #[], .pointer (some ⟨Bs, 0, none⟩)] W fun e W' => (∃ v, e = .returned v) ∧
      (J (chunks bs) W' ∨ ∃ pre, pre <+: chunks bs ∧ Jx pre W') := by
  unfold maxLen at hc
  refine callsIn_of_wp Try.func25 rfl trivial ?_ rfl
  simp only [Try.ntmps25, List.size_toArray, List.length_cons, List.length_nil, Nat.reduceAdd, Nat.reduceSub, Array.replicate_succ, Array.replicate_zero, List.push_toArray, List.append_toArray, List.nil_append, List.cons_append]
  gi_wp2
  gi_loopw [3] (fun r wr => ∃ (k : Nat) (ad : Addr), 48 * k ≤ bs.length ∧ r = .slice (some ad) (bs.length - 48 * k) (cap - 48 * k) ∧ (48 ≤ bs.length - 48 * k → ad = ⟨b, off + 48 * k, none⟩) ∧ J ((chunks bs).take k) wr ∧ Keeps S W wr)
    (fun r _ => match r with | .slice _ n _ => n | _ => 0)
  case atStart => exact ⟨0, ⟨b, off, none⟩, by omega, by simp, fun _ => by simp, by simpa using h0, Keeps.refl _ _⟩
  case round =>
    obtain ⟨k, ad, hk, rfl, had, hJs, hnx⟩ := hrel
    obtain ⟨m, hm⟩ : ∃ m, m = bs.length - 48 * k := ⟨_, rfl⟩
    obtain ⟨c, hc2⟩ : ∃ c, c = cap - 48 * k := ⟨_, rfl⟩
    rw [← hm] at had ⊢
    rw [← hc2]
    by_cases hlt : 48 ≤ m
    · obtain rfl := had hlt
      obtain ⟨ht1, ht2⟩ := chunks_take bs k (by omega)
      have hp : (chunk bs k).1.length = 48 := by simp [chunk]; omega
      have hq : (chunk bs k).2 = ((m : Int) == 48) := by
        simp only [chunk, ← hm]
        rw [Bool.eq_iff_iff, beq_iff_eq, beq_iff_eq]
        omega
      have hcx : ∀ j, j < 48 → wr.cell? ⟨b, off + 48 * k + j, none⟩ = some (.int .u8 (((chunk bs k).1[j]?.getD 0).toNat : Int)) := fun j hj => by
        have : (chunk bs k).1[j]? = bs[48 * k + j]? := by
          simp only [chunk]
          rw [List.getElem?_take_of_lt hj, List.getElem?_drop]
        rw [this, Nat.add_assoc]
        exact hnx.cell (a := ⟨b, off + (48 * k + j), none⟩) hSb (hcell _ (by omega))
      obtain ⟨fn, tmps, assign, body, hy, hR⟩ := hY _ _ _ wr ht1 hJs
      rw [← ht2] at hR
      obtain ⟨p, hpp⟩ : ∃ p, p = (chunk bs k).1 := ⟨_, rfl⟩
      simp only [cellEnc, hq, ← hpp] at hy
      rw [← hpp] at hp hcx
      have hld := run_load48 hp hcx
      obtain ⟨ad', had'⟩ : ∃ ad' : Addr, ad' = if c = 48 then ⟨b, off + 48 * k, none⟩ else ⟨b, off + 48 * k + 48, none⟩ := ⟨_, rfl⟩
      have hat : ∀ W, (Instr.arrayAt 33 (.slice (some ⟨b, off + 48 * k, none⟩) m c)).run Try.prog W = .ok (.pointer (some ⟨b, off + 48 * k, none⟩)) W := fun W => run_arrayAt W 33 5 48 _ _ _ Try.underlying33 hlt
      have h48 := sl_48 (b := b) (off := off + 48 * k) (n := m) (cap := c) hlt (by omega)
      rw [← had'] at h48
      have HT := Lib.hid ht1
      have HA := Lib.hid had'
      have HLD := Lib.hid hld
      have HC2 := Lib.hid hc2
      have HM := Lib.hid hm
      have hmc : m ≤ c := by omega
      have hcl : c ≤ 9223372036854775807 := by omega
      clear ht1 ht2 had had' hq hcx hpp hld hc2 hm hp
      gi_wp2_with (with_reducible refine gstop_dst 13 ?_)
      refine on (wpListIn_run rfl (fun c h => Op.noConfusion h) (about_load rfl) (exec_load rfl rfl HLD.out) ?_)
      gi_wp2
      refine (round_any hR).mono ?_
      rintro e W3 (⟨rfl, hJ3, hk3⟩ | ⟨rfl, hJx3⟩)
      · gi_wp2
        have h1 := HM.out
        have h2 := HC2.out
        refine ⟨⟨k + 1, ad', by omega, ?_, fun h => ?_, hJ3, hnx.trans hk3⟩, ?_⟩
        · rw [h1, h2, show bs.length - 48 * k - 48 = bs.length - 48 * (k + 1) from by omega, show cap - 48 * k - 48 = cap - 48 * (k + 1) from by omega]
        · rw [HA.out, if_neg (by omega)]
          simp only [Addr.mk.injEq, and_true, true_and]
          omega
        · show m - 48 < m
          omega
      · gi_wp2
        refine bodyPost_ret (results_none rfl _ _ _) rfl ?_
        exact ⟨⟨_, rfl⟩, .inr ⟨_, List.take_prefix _ _, hJx3⟩⟩
    · have hk2 : k = bs.length / 48 := by omega
      have hall : (chunks bs).take k = chunks bs := List.take_of_length_le (by simp [chunks]; omega)
      rw [hall] at hJs
      have HC2 := Lib.hid hc2
      have HM := Lib.hid hm
      have hmm : (m : Int) < 48 := by omega
      clear hk2 hall hc2 hm
      gi_wp2
      go_end0
      exact ⟨⟨_, rfl⟩, .inl hJs⟩

set_option maxRecDepth 100000 in
set_option maxHeartbeats 1000000 in
theorem cells1_nil (l Bs : Nat) (J : List (List UInt8 × Bool) → World → Prop) (W : World) (hBs : W.cell? ⟨Bs, 0, none⟩ = some (.slice none 0 0)) (h0 : J [] W) :
    CallsIn Fence.wide 9 Try.prog 25 #[.func (.yield l) #[] #[], .pointer (some ⟨Bs, 0, none⟩)] W fun e W' => (∃ v, e = .returned v) ∧ J [] W' := by
  refine callsIn_of_wp Try.func25 rfl trivial ?_ rfl
  simp only [Try.ntmps25, List.size_toArray, List.length_cons, List.length_nil, Nat.reduceAdd, Nat.reduceSub, Array.replicate_succ, Array.replicate_zero, List.push_toArray, List.append_toArray, List.nil_append, List.cons_append]
  gi_wp2
  gi_loopw [3] (fun r wr => r = .slice none 0 0 ∧ J [] wr) (fun _ _ => 0)
  case atStart => exact ⟨rfl, h0⟩
  case round =>
    obtain ⟨rfl, hJs⟩ := hrel
    gi_wp2
    go_end0
    exact ⟨⟨_, rfl⟩, hJs⟩
theorem cells_iter (Bs : Nat) (v : Value) (bs : List UInt8) (S : Nat → Obj → Prop) (hS : ∀ k o, v.ownBlock = some k → S k o) (w : World) (hBs : w.cell? ⟨Bs, 0, none⟩ = some v) (hb : Bytes w v bs) :
    Iter Try.prog 25 #[.pointer (some ⟨Bs, 0, none⟩)] cellEnc S (chunks bs) w := by
  intro l J Jx W hW _ _ hY h0
  have hc := hW.cell hBs (by simp [No])
  rcases hb.no hW with ⟨rfl, rfl⟩ | ⟨b, off, cap, rfl, h1, h2, h3, h4⟩
  · exact (cells1_nil l Bs J W hc h0).mono fun e W' ⟨he, hj⟩ => ⟨he, .inl hj⟩
  · exact cells1_in l Bs b off cap bs J Jx S (fun o => hS _ o rfl) hY h1 h2 W hc h4 h0
end Go.Proofs.Ytddohdfccagbbaa
