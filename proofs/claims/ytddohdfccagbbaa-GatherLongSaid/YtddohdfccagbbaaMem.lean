/- Operations on memory whose values are no literals: new variables, stores and loads of whole arrays and structs. -/
import Derived.Test.YtddohdfccagbbaaRows
import Derived.Test.YtddohdfccagbbaaBase
import Derived.Test.YtddohdfccagbbaaBytes
import Derived.Test.YtddohdfccagbbaaCells
namespace Go.Proofs.Ytddohdfccagbbaa
open Go.RowKit Go.Shelf
section
variable {P : Program} {ops : Array Oper} {rest : List Oper} {o : Oper} {a : Act} {w w' : World} {Q : Exit → Act → World → Prop} {v : Value}
theorem wpList_skips (hgd : o.guard = none) (hr : (execOp a.eval o).run P w = .ok .skip w') (h : wpList P ops Q rest (a.put o.dst undef) w') : wpList P ops Q (o :: rest) a w := by
  refine wpList_plain hgd fun K hK => ?_
  unfold Oper.wp
  rw [hr]
  exact hK _ _ h
theorem wpListIn_skips {F : Fence} {n : Nat} (hgd : o.guard = none) (hd : ∀ c, o.op ≠ .defer c) (hab : o.about P w a.eval = none) (hr : (execOp a.eval o).run P w = .ok .skip w') (h : wpListIn F n P ops Q rest (a.put o.dst undef) w') : wpListIn F n P ops Q (o :: rest) a w := by
  refine wpListIn_plain hgd fun K hK => ?_
  unfold Oper.wpIn
  refine ⟨fun f hf => (by rw [hab] at hf; cases hf), ?_⟩
  rw [Oper.semAt_plain F _ _ hd, hr]
  exact hK _ _ h
theorem exec_alloc {t : TypeId} {z : Value} (ho : o.op = .alloc t) (hz : (P.info? t).map (·.zero) = some (some z)) : (execOp a.eval o).run P w = .ok (.value (.pointer (some ⟨w.heap.size, 0, none⟩))) (w.alloc (.cells z.cells t)) := by
  cases hi : P.info? t with
  | none => simp [hi] at hz
  | some i =>
    have hz' : i.zero = some z := by simpa [hi] using hz
    simp [execOp, ho, Instr.alloc, newVar, newRow, zeroValue, typeInfo, hi, hz', Result.andThen]
theorem about_alloc {t : TypeId} (ho : o.op = .alloc t) : o.about P w a.eval = none := by simp [Oper.about, ho]
theorem about_store {t : TypeId} {x y : Operand} (ho : o.op = .store t x y) : o.about P w a.eval = none := by simp [Oper.about, ho]
/-- A store of a whole array or struct into the middle of a block that is known whole. -/
theorem run_storeVar_mid {g off : Nat} {t t0 : TypeId} {cur : Array Value} (cs : List Value) (hg : w.heap[g]? = some (.cells cur t0 (0, 0))) (hv : v.cells = cs.toArray) (h1 : ∀ u ∈ cs, u.oneCell' = true) (hi : (P.info? t).map (·.size) = some cs.length) (hfit : off + cs.length ≤ cur.size) :
    (storeVar t ⟨g, off, none⟩ v).run P w = .ok () (w.setRow g (cur.toList.take off ++ cs ++ cur.toList.drop (off + cs.length)).toArray) := by
  have := run_storeCells_at P g off t0 cs 0 cur w hg (by simpa using hfit) h1
  cases hq : P.info? t with
  | none => simp [hq] at hi
  | some i =>
    have hs : i.size = cs.length := by simpa [hq] using hi
    simp only [Nat.add_zero] at this
    simp [storeVar, sizeOf, typeInfo, hq, hs, hv, Result.andThen, this]
theorem exec_store {t : TypeId} {x y : Operand} {ad : Addr} (ho : o.op = .store t x y) (hx : a.eval x = .pointer (some ad)) (hy : a.eval y = v) (hr : (storeVar t ad v).run P w = .ok () w') : (execOp a.eval o).run P w = .ok .skip w' := by
  simp [execOp, ho, hx, hy, Instr.storeAt, Instr.sureAddr, hr, Result.andThen]
/-- A new variable, and a store of a whole value into it. -/
theorem block_stored {t : TypeId} {z : Array Value} (cs : List Value) (w : World) (hz : z.size = cs.length) : ((w.alloc (.cells z t)).setRow w.heap.size (z.toList.take 0 ++ cs ++ z.toList.drop (0 + cs.length)).toArray).heap[w.heap.size]? = some (.cells cs.toArray t (0, 0)) := by
  rw [setRow_heap _ _ z _ t _ (block_new w _)]
  rw [List.drop_of_length_le (by simp; omega)]
  simp
end
theorem zero_48 : (Try.prog.info? 33).map (·.zero) = some (some (.agg (rowOf (List.replicate 48 0)))) := by kernel_rfl
theorem size_48 : (Try.prog.info? 33).map (·.size) = some 48 := by kernel_rfl
/-- A new [48]byte, and p in it (in a round). -/
theorem box48_in {F : Fence} {n : Nat} {ops : Array Oper} {rest : List Oper} {o1 o2 : Oper} {a : Act} {w : World} {Q : Exit → Act → World → Prop} (hg1 : o1.guard = none) (hg2 : o2.guard = none) (y : Operand) (d : Tmp) (hd : o1.dst = some d) (hd2 : o2.dst = none) (ho1 : o1.op = .alloc 33) (ho2 : o2.op = .store 33 (.tmp d) y)
    (p : List UInt8) (hp : p.length = 48) (hy : (a.put (some d) (.pointer (some ⟨w.heap.size, 0, none⟩))).eval y = arrV p) (hx : (a.put (some d) (.pointer (some ⟨w.heap.size, 0, none⟩))).eval (.tmp d) = .pointer (some ⟨w.heap.size, 0, none⟩))
    (h : ∀ w', w'.heap[w.heap.size]? = some (.cells (rowOf p) 33 (0, 0)) → w.heap.size < w'.heap.size → Upd No w w' → wpListIn F n Try.prog ops Q rest (a.put (some d) (.pointer (some ⟨w.heap.size, 0, none⟩))) w') : wpListIn F n Try.prog ops Q (o1 :: o2 :: rest) a w := by
  refine wpListIn_run hg1 (fun c h => by rw [ho1] at h; cases h) (about_alloc ho1) (exec_alloc ho1 zero_48) ?_
  rw [hd]
  have hst := run_storeVar_mid (P := Try.prog) (w := w.alloc (.cells (rowOf (List.replicate 48 0)) 33)) (v := arrV p) (g := w.heap.size) (off := 0) (t := 33) (p.map byteV) (block_new w _) rfl (fun u hu => by obtain ⟨x, _, rfl⟩ := List.mem_map.1 hu; rfl) (by rw [List.length_map, hp]; exact size_48) (by rw [List.length_map, hp]; simp [rowOf])
  refine wpListIn_skips hg2 (fun c h => by rw [ho2] at h; cases h) (about_store ho2) (exec_store ho2 hx hy hst) ?_
  rw [hd2]
  refine h _ (block_stored _ w (by simp [rowOf, hp])) (by simp) ?_
  exact ((Upd.refl No w).alloc _).setRow (.inl (Nat.le_refl _)) _
end Go.Proofs.Ytddohdfccagbbaa
