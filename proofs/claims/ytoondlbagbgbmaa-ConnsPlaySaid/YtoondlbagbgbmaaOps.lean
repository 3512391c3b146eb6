/- Operations whose run is known, one by one: builtins, loads and stores of whole values, new variables. -/
import Derived.Test.YtoondlbagbgbmaaRows
import Derived.Test.YtoondlbagbgbmaaBase
import Derived.Laws.CopyOwn
namespace Go.Proofs.Ytoondlbagbgbmaa
open Go.RowKit Go.Shelf

section
variable {P : Program} {ops : Array Oper} {rest : List Oper} {o : Oper} {a : Act} {w w' : World} {Q : Exit → Act → World → Prop} {v : Value}
/-- An operation whose run is known. -/
theorem wpList_run (hgd : o.guard = none) (hr : (execOp a.eval o).run P w = .ok (.value v) w') (h : wpList P ops Q rest (a.put o.dst v) w') : wpList P ops Q (o :: rest) a w := by
  refine wpList_plain hgd fun K hK => ?_
  unfold Oper.wp
  rw [hr]
  exact hK _ _ h
theorem wpListIn_run {F : Fence} {n : Nat} (hgd : o.guard = none) (hd : ∀ c, o.op ≠ .defer c) (hab : o.about P w a.eval = none) (hr : (execOp a.eval o).run P w = .ok (.value v) w') (h : wpListIn F n P ops Q rest (a.put o.dst v) w') : wpListIn F n P ops Q (o :: rest) a w := by
  refine wpListIn_plain hgd fun K hK => ?_
  unfold Oper.wpIn
  refine ⟨fun f hf => (by rw [hab] at hf; cases hf), ?_⟩
  rw [Oper.semAt_plain F _ _ hd, hr]
  exact hK _ _ h
/-- The same as a step of a region that draws its order. -/
theorem step_run {K : Act → World → Prop} {E : Prop} (hgd : o.guard = none) (hr : (execOp a.eval o).run P w = .ok (.value v) w') (h : K (a.put o.dst v) w') : if Region.wanted o (yielded ops a.tmps) = true then Oper.wp P o a w K Q else E := by
  rw [if_pos (by simp [Region.wanted, hgd])]
  unfold Oper.wp
  rw [hr]
  exact h
theorem exec_append {s x : Operand} {t : TypeId} {v1 v2 : Value} (ho : o.op = .call { callee := .builtin .append, args := #[s, x], argTypes := #[t, t] }) (hs : a.eval s = v1) (hx : a.eval x = v2)
    (hr : (Builtin.append_ #[t, t] o.type #[v1, v2]).run P w = .ok v w') : (execOp a.eval o).run P w = .ok (.value v) w' := by
  simp [execOp, ho, resolve, invoke, builtin, hs, hx, hr, Result.andThen]
theorem exec_copy {s x : Operand} {t t' : TypeId} {v1 v2 : Value} (ho : o.op = .call { callee := .builtin .copy, args := #[s, x], argTypes := #[t, t'] }) (hs : a.eval s = v1) (hx : a.eval x = v2)
    (hr : (Builtin.copy_ #[t, t'] o.type #[v1, v2]).run P w = .ok v w') : (execOp a.eval o).run P w = .ok (.value v) w' := by
  simp [execOp, ho, resolve, invoke, builtin, hs, hx, hr, Result.andThen]
theorem exec_make {x y : Operand} {t : TypeId} {v1 v2 : Value} (ho : o.op = .makeSlice t x y) (hs : a.eval x = v1) (hx : a.eval y = v2)
    (hr : (Instr.makeSlice t v1 v2).run P w = .ok v w') : (execOp a.eval o).run P w = .ok (.value v) w' := by
  simp [execOp, ho, hs, hx, hr, Result.andThen]
theorem about_builtin {b : Builtin} {args : Array Operand} {ts : Array TypeId} (ho : o.op = .call { callee := .builtin b, args := args, argTypes := ts }) : o.about P w a.eval = none := by
  simp [Oper.about, ho, resolve, Target.leads, Sem.run_pure]
end

section
variable {P : Program} {o : Oper} {a : Act} {w : World} {v : Value}
theorem exec_load {t : TypeId} {x : Operand} {ad : Addr} (ho : o.op = .load t x) (hx : a.eval x = .pointer (some ad)) (hr : (loadVar t ad).run P w = .ok v w) : (execOp a.eval o).run P w = .ok (.value v) w := by
  simp only [execOp, ho, hx, Instr.loadAt, Instr.sureAddr, Sem.run_bind, Sem.run_pure, Result.andThen_ok, hr]
theorem about_load {t : TypeId} {x : Operand} (ho : o.op = .load t x) : o.about P w a.eval = none := by simp [Oper.about, ho]
/-- A whole array or struct out of the middle of a block. -/
theorem run_loadVar_mid {b off : Nat} {ty : TypeId} {d : TypeDesc} (cs : List Value) (hc : ∀ j v, cs[j]? = some v → w.cell? ⟨b, off + j, none⟩ = some v)
    (hu : P.underlying ty = some d) (hd : (match d with | .struct _ | .array _ _ => true | _ => false) = true) (hi : (P.info? ty).map (·.size) = some cs.length) :
    (loadVar ty ⟨b, off, none⟩).run P w = .ok (.agg cs.toArray) w := by
  have hl := run_loadCells_list (P := P) w ⟨b, off, none⟩ cs (fun j v hv => by
    have hadd : (⟨b, off, none⟩ : Addr).add j = ⟨b, off + j, none⟩ := by unfold Addr.add; split <;> simp_all
    rw [hadd]
    exact hc j v hv)
  cases hq : P.info? ty with
  | none => simp [hq] at hi
  | some i =>
    have hs : i.size = cs.length := by simpa [hq] using hi
    have hagg : (isAgg ty).run P w = .ok true w := by
      unfold isAgg
      rw [Sem.run_bind, run_underlying hu w]
      cases d <;> simp_all
    simp [loadVar, Sem.run_bind, hagg, sizeOf, typeInfo, hq, hs, hl]
end
section
variable {P : Program} {ops : Array Oper} {rest : List Oper} {o : Oper} {a : Act} {w w' : World} {Q : Exit → Act → World → Prop} {v : Value}
theorem wpList_skips (hgd : o.guard = none) (hr : (execOp a.eval o).run P w = .ok .skip w') (h : wpList P ops Q rest (a.put o.dst undef) w') : wpList P ops Q (o :: rest) a w := by
  refine wpList_plain hgd fun K hK => ?_
  unfold Oper.wp
  rw [hr]
  exact hK _ _ h
theorem wpListIn_skips {F : Fence} {n : Nat} (hgd : o.guard = none) (hd : ∀ c, o.op ≠ .defer c) (hab : o.about P w a.eval = none) (hr : (execOp a.eval o).run P w = .ok .skip w') (h : wpListIn F n P ops Q rest (a.put o.dst undef) w') : wpListIn F n P ops Q (o :: rest) a w := by
  refine wpListIn_plain hgd fun K hK => ?_
  unfold Oper.wpIn
  refine ⟨fun f hf => (by rw [hab] at hf; cases hf), ?_⟩
  rw [Oper.semAt_plain F _ _ hd, hr]
  exact hK _ _ h
theorem exec_alloc {t : TypeId} {z : Value} (ho : o.op = .alloc t) (hz : (P.info? t).map (·.zero) = some (some z)) : (execOp a.eval o).run P w = .ok (.value (.pointer (some ⟨w.heap.size, 0, none⟩))) (w.alloc (.cells z.cells t)) := by
  cases hi : P.info? t with
  | none => simp [hi] at hz
  | some i =>
    have hz' : i.zero = some z := by simpa [hi] using hz
    simp [execOp, ho, Instr.alloc, newVar, newRow, zeroValue, typeInfo, hi, hz', Result.andThen]
theorem about_alloc {t : TypeId} (ho : o.op = .alloc t) : o.about P w a.eval = none := by simp [Oper.about, ho]
theorem about_store {t : TypeId} {x y : Operand} (ho : o.op = .store t x y) : o.about P w a.eval = none := by simp [Oper.about, ho]
/-- A store of a whole array or struct into the middle of a block that is known whole. -/
theorem run_storeVar_mid {g off : Nat} {t t0 : TypeId} {cur : Array Value} (cs : List Value) (hg : w.heap[g]? = some (.cells cur t0 (0, 0))) (hv : v.cells = cs.toArray) (h1 : ∀ u ∈ cs, u.oneCell' = true) (hi : (P.info? t).map (·.size) = some cs.length) (hfit : off + cs.length ≤ cur.size) :
    (storeVar t ⟨g, off, none⟩ v).run P w = .ok () (w.setRow g (cur.toList.take off ++ cs ++ cur.toList.drop (off + cs.length)).toArray) := by
  have := run_storeCells_at P g off t0 cs 0 cur w hg (by simpa using hfit) h1
  cases hq : P.info? t with
  | none => simp [hq] at hi
  | some i =>
    have hs : i.size = cs.length := by simpa [hq] using hi
    simp only [Nat.add_zero] at this
    simp [storeVar, sizeOf, typeInfo, hq, hs, hv, Result.andThen, this]
theorem exec_store {t : TypeId} {x y : Operand} {ad : Addr} (ho : o.op = .store t x y) (hx : a.eval x = .pointer (some ad)) (hy : a.eval y = v) (hr : (storeVar t ad v).run P w = .ok () w') : (execOp a.eval o).run P w = .ok .skip w' := by
  simp [execOp, ho, hx, hy, Instr.storeAt, Instr.sureAddr, hr, Result.andThen]
/-- A new variable, and a store of a whole value into it. -/
theorem block_stored {t : TypeId} {z : Array Value} (cs : List Value) (w : World) (hz : z.size = cs.length) : ((w.alloc (.cells z t)).setRow w.heap.size (z.toList.take 0 ++ cs ++ z.toList.drop (0 + cs.length)).toArray).heap[w.heap.size]? = some (.cells cs.toArray t (0, 0)) := by
  rw [setRow_heap _ _ z _ t _ (block_new w _)]
  rw [List.drop_of_length_le (by simp; omega)]
  simp
end
/-- A world in which W's blocks lie as they lay. -/
structure Later (W : World) where
  w : World
  u : Upd No W w
instance (W : World) : Nonempty (Later W) := ⟨⟨W, Upd.refl _ _⟩⟩
/-- A region that draws its order, whose operations read, or call what lays new blocks alone: one walk, in the text's order. The class of worlds: those in which W's blocks lie as they lay. -/
theorem wp_region_upd {P : Program} {id : Nat} {Q : Exit → Act → World → Prop} {a : Act} {w : World} {l : List Oper} (W : World) (hm : P.follows .mixedOrders = true) (hB : Region.lexB .any l.toArray = true) (hC : Upd No W w)
    (h : wpQuiet P l.toArray (fun w' => ∃ X : Later W, w' = X.w) (fun a' => ∀ w', (∃ X : Later W, w' = X.w) → Q .normal a' w') l a) : (Code.region id l.toArray true).wp P Q a w :=
  wp_region_quiet hm hB ⟨⟨_, hC.drew⟩, rfl⟩ h
/-- A callee's contract, met in such a world. -/
theorem quiet_upd {P : Program} {f : FuncId} {args : Array Value} {W : World} {X : Later W} {v : Value} (h : Calls P f args X.w fun e w' => e = .returned v ∧ Upd No X.w w') : Calls P f args X.w fun e w' => e = .returned v ∧ ∃ Y : Later W, w' = Y.w :=
  h.mono fun _ w' ⟨he, hU⟩ => ⟨he, ⟨w', X.u.trans hU⟩, rfl⟩
end Go.Proofs.Ytoondlbagbgbmaa
