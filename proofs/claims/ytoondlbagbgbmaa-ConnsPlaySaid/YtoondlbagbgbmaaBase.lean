/- The words that all walks of this claim share: which blocks a call turns ('Upd'), an iterator's contract ('Iter'), the law of a range over a function ('range_out', 'range_in'), and the end of a function that holds one ('fin_marks'). -/
import Derived.WalkKit
import Derived.WalkSpells
import Derived.WalkLawsBesides
import Derived.BigQuiet
import Derived.Deep.QuietTactic
import Derived.Deep.LoopGhost
import Derived.Lib.Hide
import Derived.RangeFuncNested
import Derived.RangeFuncBound
import Derived.RangeFuncCalls
import Derived.RangeFuncLeaves
import Derived.OwnWalkIn
import Derived.TacticsInMore
import Derived.LoopNIn
import Derived.LoopIn
import Derived.Shelf.Abstract
namespace Go.Proofs.Ytoondlbagbgbmaa
open Go.RowKit Go.Shelf

/-- What lay in w lies in w' as it lay, but for the blocks of S. -/
structure Upd (S : Nat → Prop) (w w' : World) : Prop where
  os : w'.os = w.os
  tape : w'.tape = w.tape
  output : w'.output = w.output
  size : w.heap.size ≤ w'.heap.size
  block : ∀ k, k < w.heap.size → ¬ S k → w'.heap[k]? = w.heap[k]?

def No : Nat → Prop := fun _ => False
def One (b : Nat) : Nat → Prop := fun k => k = b
def Two (b c : Nat) : Nat → Prop := fun k => k = b ∨ k = c

theorem Upd.refl (S : Nat → Prop) (w : World) : Upd S w w := ⟨rfl, rfl, rfl, Nat.le_refl _, fun _ _ _ => rfl⟩
theorem Upd.trans {S : Nat → Prop} {a b c : World} (h : Upd S a b) (k : Upd S b c) : Upd S a c :=
  ⟨k.os.trans h.os, k.tape.trans h.tape, k.output.trans h.output, Nat.le_trans h.size k.size, fun i hi hs => (k.block i (Nat.lt_of_lt_of_le hi h.size) hs).trans (h.block i hi hs)⟩
theorem Upd.mono {S T : Nat → Prop} {a b : World} (h : Upd S a b) (hst : ∀ k, k < a.heap.size → S k → T k) : Upd T a b :=
  ⟨h.os, h.tape, h.output, h.size, fun i hi hs => h.block i hi (fun e => hs (hst i hi e))⟩
/-- A second step may turn the blocks of T, that are among S or new. -/
theorem Upd.then {S T : Nat → Prop} {a b c : World} (h : Upd S a b) (k : Upd T b c) (hts : ∀ i, i < a.heap.size → T i → S i) : Upd S a c :=
  ⟨k.os.trans h.os, k.tape.trans h.tape, k.output.trans h.output, Nat.le_trans h.size k.size, fun i hi hs => (k.block i (Nat.lt_of_lt_of_le hi h.size) (fun e => hs (hts i hi e))).trans (h.block i hi hs)⟩
theorem Upd.no {S : Nat → Prop} {a b : World} (h : Upd No a b) : Upd S a b := h.mono (fun _ _ h => h.elim)
theorem Upd.drew {S : Nat → Prop} {a w : World} (h : Upd S a w) : Upd S a w.drew := ⟨h.os, h.tape, h.output, h.size, h.block⟩
theorem Upd.drewN {S : Nat → Prop} {a w : World} (h : Upd S a w) (n : Nat) : Upd S a (w.drewN n) := ⟨h.os, h.tape, h.output, h.size, h.block⟩
theorem Upd.alloc {S : Nat → Prop} {a w : World} (h : Upd S a w) (o : Obj) : Upd S a (w.alloc o) :=
  h.trans ⟨rfl, rfl, rfl, by simp, fun k hk _ => Below.heap_alloc _ _ _ hk⟩
theorem Upd.setCell {S : Nat → Prop} {a w : World} (h : Upd S a w) {p : Addr} (hp : a.heap.size ≤ p.block ∨ S p.block) (u : Value) : Upd S a (w.setCell p u) :=
  ⟨h.os, h.tape, h.output, by have := h.size; simpa [World.setCell] using this, fun k hk hs => (Below.heap_setCell _ _ _ _ (by rintro rfl; rcases hp with hp | hp; exact absurd hk (by omega); exact hs hp)).trans (h.block k hk hs)⟩
theorem Upd.setRow {S : Nat → Prop} {a w : World} (h : Upd S a w) {g : Nat} (hp : a.heap.size ≤ g ∨ S g) (cs : Array Value) : Upd S a (w.setRow g cs) :=
  ⟨h.os, h.tape, h.output, by have := h.size; simpa [World.setRow] using this, fun k hk hs => (setRow_other w g k cs (by rintro rfl; rcases hp with hp | hp; exact absurd hk (by omega); exact hs hp)).trans (h.block k hk hs)⟩
theorem Upd.grown {S : Nat → Prop} {a w w' : World} {row : Option Nat} (h : Upd S a w) (hg : w.grownBy w' row) (hr : ∀ k, row = some k → a.heap.size ≤ k ∨ S k) : Upd S a w' :=
  ⟨hg.os.trans h.os, hg.tape.trans h.tape, hg.output.trans h.output, Nat.le_trans h.size hg.size, fun k hk hs => (hg.block k (Nat.lt_of_lt_of_le hk h.size) (fun e => by rcases hr k e.symm with h1 | h1; exact absurd hk (by omega); exact hs h1)).trans (h.block k hk hs)⟩
theorem Upd.below {w w' : World} (h : Upd No w w') : Below w.heap.size w w' := ⟨h.os, h.tape, h.output, h.size, fun k hk => h.block k hk (fun e => e)⟩
theorem Upd.of_below {w w' : World} (h : Below w.heap.size w w') {S : Nat → Prop} : Upd S w w' := ⟨h.os, h.tape, h.output, h.size, fun k hk _ => h.block k hk⟩
theorem Upd.at {S : Nat → Prop} {w w' : World} (h : Upd S w w') {k : Nat} {o : Obj} (hk : w.heap[k]? = some o) (hs : ¬ S k) : w'.heap[k]? = some o :=
  (h.block k (Array.getElem?_eq_some_iff.1 hk).1 hs).trans hk
theorem Upd.cell {S : Nat → Prop} {w w' : World} (h : Upd S w w') {a : Addr} {v : Value} (hk : w.cell? a = some v) (hs : ¬ S a.block) : w'.cell? a = some v :=
  (World.cell?_of_block (h.block a.block (World.block_lt_of_cell? w a hk) hs)).trans hk
theorem heap_lt {w : World} {k : Nat} {o : Obj} (h : w.heap[k]? = some o) : k < w.heap.size := (Array.getElem?_eq_some_iff.1 h).1

/-- A block that is known whole: its cells, as rules for the walk. -/
theorem cells_at {w : World} {b : Nat} {c : Array Value} {t : TypeId} (h : w.heap[b]? = some (.cells c t (0, 0))) : (∀ j, w.cell? ⟨b, j, none⟩ = c[j]?) ∧ (∀ j, w.frozen? ⟨b, j, none⟩ = false) :=
  ⟨fun j => cell_of_row w b j c t (0, 0) h, fun j => frozen_of_row w b j c t h⟩
theorem block_new (w : World) (o : Obj) : (w.alloc o).heap[w.heap.size]? = some o := heap_alloc_new w o
theorem block_old {w : World} {k : Nat} {o : Obj} (h : w.heap[k]? = some o) (o' : Obj) : (w.alloc o').heap[k]? = some o := (Below.heap_alloc w o' _ (heap_lt h)).trans h
theorem block_set {w : World} {g i : Nat} {cs : Array Value} {t : TypeId} (h : w.heap[g]? = some (.cells cs t (0, 0))) (v : Value) : (w.setCell ⟨g, i, none⟩ v).heap[g]? = some (.cells (cs.setIfInBounds i v) t (0, 0)) := heap_setCell_same w g i cs t v h
theorem block_other {w : World} {k : Nat} {o : Obj} (h : w.heap[k]? = some o) {a : Addr} (hne : k ≠ a.block) (v : Value) : (w.setCell a v).heap[k]? = some o := (Below.heap_setCell w a v k hne).trans h

/-- What an iterator wants kept by a round: the blocks of S. -/
def Keeps (S : Nat → Obj → Prop) (W W' : World) : Prop := ∀ k o, S k o → W.heap[k]? = some o → W'.heap[k]? = some o
theorem Keeps.refl (S : Nat → Obj → Prop) (W : World) : Keeps S W W := fun _ _ _ h => h
theorem Keeps.trans {S : Nat → Obj → Prop} {A B C : World} (h : Keeps S A B) (k : Keeps S B C) : Keeps S A C := fun i o hs ho => k i o hs (h i o hs ho)
theorem Keeps.putObj {S : Nat → Obj → Prop} {B : Nat} (hS : ∀ k o, S k o → k < B ∨ o.isCells = true) (W : World) (l : Nat) (o o' : Obj) (hl : B ≤ l) (h : W.heap[l]? = some o) (hc : o.isCells = false) : Keeps S W (W.putObj l o') := by
  intro k o2 hs ho
  have hne : k ≠ l := by
    rintro rfl
    rw [h] at ho; cases ho
    rcases hS _ _ hs with h1 | h1
    · omega
    · rw [hc] at h1; cases h1
  exact (World.putObj_heap_other hne).trans ho
theorem Keeps.cell {S : Nat → Obj → Prop} {W W' : World} (h : Keeps S W W') {a : Addr} (hS : ∀ o, S a.block o) {v : Value} (hv : W.cell? a = some v) : W'.cell? a = some v := by
  obtain ⟨o, ho, _⟩ := cells_of_cell hv
  exact (World.cell?_of_block ((h _ o (hS o) ho).trans ho.symm)).trans hv
theorem Upd.keeps {T : Nat → Prop} {S : Nat → Obj → Prop} {W W' : World} (h : Upd T W W') (hd : ∀ k o, T k → W.heap[k]? = some o → ¬ S k o) : Keeps S W W' := fun k o hs ho => h.at ho (fun e => hd k o e ho hs)
theorem Upd.keepsFrom {T : Nat → Prop} {B : Nat} {W W' : World} (h : Upd T W W') (hd : ∀ k o, T k → B ≤ k → W.heap[k]? = some o → o.isCells = true) : KeepsFrom B W W' :=
  ⟨h.size, fun k o hB hk ho => h.at hk (fun e => by rw [hd k o e hB hk] at ho; cases ho)⟩

/-- AN ITERATOR's CONTRACT: each of xs in order, as long as the round says so; a round keeps the blocks of S. -/
def Iter (P : Program) {α : Type} (g : Nat) (lb : Array Value) (encs : α → Array Value) (S : Nat → Obj → Prop) (xs : List α) (w : World) : Prop :=
  ∀ (l : Nat) (J Jx : List α → World → Prop) (W : World), Upd No w W → OwnFrom W.heap.size J → OwnFrom W.heap.size Jx →
    (∀ pre x post W1, xs = pre ++ x :: post → J pre W1 → YieldAt Fence.wide 9 P l (encs x) W1 fun e W' =>
      (e = .returned (.bool true) ∧ J (pre ++ [x]) W' ∧ Keeps S W1 W') ∨ (e = .returned (.bool false) ∧ Jx (pre ++ [x]) W')) →
    J [] W →
    CallsIn Fence.wide 9 P g (#[.func (.yield l) #[] #[]] ++ lb) W fun e W' => (∃ v, e = .returned v) ∧ (J xs W' ∨ ∃ pre, pre <+: xs ∧ Jx pre W')

theorem Iter.later {P : Program} {α : Type} {g : Nat} {lb : Array Value} {encs : α → Array Value} {S : Nat → Obj → Prop} {xs : List α} {w w' : World} (h : Iter P g lb encs S xs w) (hw : Upd No w w') : Iter P g lb encs S xs w' :=
  fun l J Jx W hW hJ hJx hY h0 => h l J Jx W (hw.trans hW.no |>.mono (fun _ _ h => h)) hJ hJx hY h0

theorem calls_any {P : Program} {n m f : Nat} {args : Array Value} {w : World} {R : Ending → World → Prop} (h : CallsIn Fence.wide n P f args w R) : CallsIn Fence.wide m P f args w R := callsIn_wide.2 (callsIn_wide.1 h)
theorem round_any {P : Program} {n m l f : Nat} {tmps : Array Value} {assign body : Code} {w : World} {R : Ending → World → Prop} (h : RoundIn Fence.wide n P l f tmps assign body w R) : RoundIn Fence.wide m P l f tmps assign body w R :=
  ⟨h.1, fun c cs _ => h.2 c cs (room_wide _)⟩
theorem of_wide {P : Program} {f : Nat} {args : Array Value} {w : World} {R : Ending → World → Prop} (h : CallsIn Fence.wide 9 P f args w R) : Calls P f args w R := callsIn_wide.1 h
theorem to_wide {P : Program} {n f : Nat} {args : Array Value} {w : World} {R : Ending → World → Prop} (h : Calls P f args w R) : CallsIn Fence.wide n P f args w R := callsIn_wide.2 h
theorem to_round {P : Program} {n f l : Nat} {args : Array Value} {w : World} {R : Ending → World → Prop} (h : Calls P f args w R) : CallsIn (Fence.wide.inRound l) n P f args w R := CallsIn.inRound l (callsIn_wide.2 h)
theorem wide_fn (f : Nat) : Fence.wide.fn f := trivial
@[go_sem] theorem wide_depth : Fence.wide.depth = none := rfl
@[go_sem] theorem wide_round : Fence.wide.round = none := rfl

/-- What a round may leave behind: as the kit's 'ownPostG'. -/
abbrev RoundPost {α : Type} (B : Nat) (S : Nat → Obj → Prop) (I : List α → World → Prop) (Ix : Code → List α → World → Prop) (xs : List α) (W : World) : Exit → Act → World → Prop := ownPostG B (Keeps S) I Ix xs W

variable {P : Program}
/-- What the assign code of a round must reach: the body may be walked from there, in whatever world abides it. -/
def RoundFrom {α : Type} (P : Program) (B : Nat) (S : Nat → Obj → Prop) (I : List α → World → Prop) (Ix : Code → List α → World → Prop) (l : Nat) (pre : List α) (x : α) (body : Code) (W : World) (a' : Act) (W' : World) : Prop :=
  KeepsFrom B W W' ∧ Keeps S W W' ∧ ∃ A : World → Prop, OwnFrom B (fun (_ : Unit) W => A W) ∧ A W' ∧ ∀ Wb, (∃ r, Wb.heap[l]? = some (.loop r)) → A Wb → body.wpIn (Fence.wide.inRound l) 9 P (RoundPost B S I Ix (pre ++ [x]) Wb) a' Wb
theorem RoundFrom.plain {α : Type} {P : Program} {B : Nat} {S : Nat → Obj → Prop} {I : List α → World → Prop} {Ix : Code → List α → World → Prop} {l : Nat} {pre : List α} {x : α} {body : Code} {W : World} {a' : Act}
    (hI : OwnFrom B I) (hi : I pre W) (h : ∀ Wb, I pre Wb → body.wpIn (Fence.wide.inRound l) 9 P (RoundPost B S I Ix (pre ++ [x]) Wb) a' Wb) : RoundFrom P B S I Ix l pre x body W a' W :=
  ⟨KeepsFrom.refl _ _, Keeps.refl _ _, I pre, fun _ X Y row hs hg hr => hI pre X Y row hs hg hr, hi, fun Wb _ hA => h Wb hA⟩

set_option maxHeartbeats 1000000 in
/-- THE LAW OF A RANGE OVER A FUNCTION, outside every round. -/
theorem range_out {α : Type} {g : Operand} {ps : Array Tmp} {assign body : Code} {Q : Exit → Act → World → Prop} {a : Act} {w : World}
    {gf : Nat} {lb : Array Value} (hg : a.eval g = .func (.func gf) #[] lb) (eg : ∀ args w, (callFunc gf args).run P w = .ok (.enter gf args) w)
    {encs : α → Array Value} {S : Nat → Obj → Prop} {xs : List α} (hseq : Iter P gf lb encs S xs w)
    (hS : ∀ k o, S k o → k < w.heap.size ∨ o.isCells = true) (hps : ∀ x, (encs x).size = ps.size)
    (I : List α → World → Prop) (Ix : Code → List α → World → Prop) (hI : OwnFrom w.heap.size I) (hIx : ∀ c, OwnFrom w.heap.size (Ix c)) (h0 : I [] w)
    (hround : ∀ (l : Nat) (pre : List α) (x : α) (post : List α) (W : World), xs = pre ++ x :: post → w.heap.size ≤ l → I pre W →
      assign.wpIn (Fence.wide.inRound l) 9 P (Exit.then (RoundFrom P w.heap.size S I Ix l pre x body W) (fun _ _ _ => False)) { tmps := (ps.zip (encs x)).foldl (fun t (p, v) => t.setIfInBounds p v) a.tmps, defers := [] } W)
    (hdone : ∀ (D : Nat) (W : World), w.heap.size ≤ D → I xs W → W.heap[D]? = some (.deferred (some [])) → Q .normal { a with defers := { target := .collected D, args := #[] } :: a.defers } W)
    (hstop : ∀ (D : Nat) (c : Code) (pre : List α) (W : World), w.heap.size ≤ D → pre <+: xs → Ix c pre W → W.heap[D]? = some (.deferred (some [])) → c.wp P Q { a with defers := { target := .collected D, args := #[] } :: a.defers } W) :
    (Code.rangeFunc g ps assign body).wp P Q a w := by
  refine (wpIn_wide (n := 9)).1 ?_
  refine wpIn_rangeFunc ?_
  intro fn hfn
  obtain ⟨rec, hrec⟩ : ∃ rec : LoopState → Option Code → Loop, rec = fun st pe => { state := st, pending := pe, fn, tmps := a.tmps, params := ps, assign, body, defers := w.heap.size } := ⟨_, rfl⟩
  obtain ⟨W1, hW1⟩ : ∃ W1, (w.alloc (.deferred (some []))).alloc (.loop (rec .ready none)) = W1 := ⟨_, rfl⟩
  have hsz1 : W1.heap.size = w.heap.size + 2 := by rw [← hW1]; simp
  have hL1 : W1.heap[w.heap.size + 1]? = some (.loop (rec .ready none)) := by
    rw [← hW1]; have := World.alloc_heap_new (w.alloc (.deferred (some []))) (.loop (rec .ready none)); rwa [World.size_alloc] at this
  have hK1 : W1.heap[w.heap.size]? = some (.deferred (some [])) := by
    rw [← hW1]; exact (Below.heap_alloc _ _ _ (by simp)).trans (World.alloc_heap_new w _)
  have hI1 : I [] W1 := by rw [← hW1]; exact hI.alloc _ (hI.alloc _ h0)
  have hb1 : Upd No w W1 := by
    rw [← hW1]; exact ((Upd.refl _ w).alloc _).alloc _
  have hKb : ∀ (W : World) (l : Nat) (o o' : Obj), w.heap.size ≤ l → W.heap[l]? = some o → o.isCells = false → Keeps S W (W.putObj l o') := fun W l o o' hl h hc => Keeps.putObj hS W l o o' hl h hc
  refine ⟨w.heap.size + 1, [{ target := .collected w.heap.size, args := #[] }], W1, { target := .fn (.func gf) lb, args := #[.func (.yield (w.heap.size + 1)) #[] #[]] }, W1, gf,
    #[.func (.yield (w.heap.size + 1)) #[] #[]] ++ lb, W1, ?_, ?_, fun _ _ => trivial, ?_, fun _ => by decide, ?_⟩
  · rw [← hW1, hrec]; exact run_enterLoop_outer _ _ _ _ _
  · simp only [resolve, hg]
    simp [go_sem]
  · simp [invoke, go_sem, eg]
  · have keep : ∀ {A B : World} {row : Option Nat} {k : Nat} {o : Obj}, A.grownBy B row → (∀ r, row = some r → W1.heap.size ≤ r ∧ ∃ o : Obj, A.heap[r]? = some o ∧ o.isCells = false) → k < W1.heap.size → A.heap[k]? = some o → B.heap[k]? = some o := fun hg' hr hk ho =>
      (hg'.block _ (heap_lt ho) (fun e => by have := (hr _ e.symm).1; omega)).trans ho
    have hnw : ∀ {A : World} {row : Option Nat}, (∀ r, row = some r → W1.heap.size ≤ r ∧ ∃ o : Obj, A.heap[r]? = some o ∧ o.isCells = false) → (∀ r, row = some r → w.heap.size ≤ r ∧ ∃ o : Obj, A.heap[r]? = some o ∧ o.isCells = false) :=
      fun hr r e => ⟨by have := (hr r e).1; omega, (hr r e).2⟩
    refine calls_any (n := 9) ((hseq (w.heap.size + 1)
      (fun pre W => I pre W ∧ W.heap[w.heap.size + 1]? = some (.loop (rec .ready none)) ∧ W.heap[w.heap.size]? = some (.deferred (some [])))
      (fun pre W => ∃ c, Ix c pre W ∧ W.heap[w.heap.size + 1]? = some (.loop (rec .done (some c))) ∧ W.heap[w.heap.size]? = some (.deferred (some [])))
      W1 hb1
      (fun s A B row hs hg' hr => ⟨hI s A B row hs.1 hg' (hnw hr), keep hg' hr (by omega) hs.2.1, keep hg' hr (by omega) hs.2.2⟩)
      (fun s A B row hs hg' hr => by
        obtain ⟨c, hc, hl, hk⟩ := hs
        exact ⟨c, hIx c s A B row hc hg' (hnw hr), keep hg' hr (by omega) hl, keep hg' hr (by omega) hk⟩)
      ?_ ⟨hI1, hL1, hK1⟩).mono ?_)
    · rintro pre x post W hxs ⟨hi, hl, hk⟩
      have hlt : w.heap.size + 1 < W.heap.size := heap_lt hl
      have hy := run_yield (P := P) (args := encs x) hl (by rw [hrec]; exact hps x)
      rw [hrec] at hy
      refine ⟨fn, _, assign, body, hy, roundIn_of_wpIn hfn (wpIn_mono (hround _ pre x post W hxs (Nat.le_succ _) hi) ?_)⟩
      clear hy
      intro e1 a' Wa hrf
      cases e1 with
      | normal =>
        obtain ⟨hkfa, hkpa, A, hA, ha, hbody⟩ := hrf
        replace hl := hkfa.same _ _ (by omega) hl rfl
        replace hk := hkfa.same _ _ (Nat.le_refl _) hk rfl
        replace hlt : w.heap.size + 1 < Wa.heap.size := heap_lt hl
        clear hi
        revert hkpa hkfa
        generalize W = Wb
        intro hkfa hkpa
        obtain ⟨W, rfl⟩ : ∃ W, W = Wa := ⟨_, rfl⟩
        refine ⟨_, run_beginRound hl (by rw [hrec]), ?_⟩
        have hl2 : (W.putObj (w.heap.size + 1) (.loop { rec .ready none with state := .busy })).heap[w.heap.size + 1]? = some (.loop { rec .ready none with state := .busy }) := World.putObj_heap_same hlt
        have hk2 : (W.putObj (w.heap.size + 1) (.loop { rec .ready none with state := .busy })).heap[w.heap.size]? = some (.deferred (some [])) := (World.putObj_heap_other (by omega)).trans hk
        have hw2 : Keeps S W (W.putObj (w.heap.size + 1) (.loop { rec .ready none with state := .busy })) := hKb _ _ _ _ (by omega) hl rfl
        refine wpIn_mono (hbody _ ⟨_, hl2⟩ (hA.putObj (s := ()) _ ha (by omega) hl rfl)) ?_
        have fin : ∀ (jump : Option Code) (W3 : World), KeepsFrom w.heap.size (W.putObj (w.heap.size + 1) (.loop { rec .ready none with state := .busy })) W3 →
            (Instr.endRound (w.heap.size + 1) jump).run P W3 = .ok (.bool jump.isNone) (W3.putObj (w.heap.size + 1) (.loop (rec (if jump.isNone then .ready else .done) jump))) ∧
            W3.heap[w.heap.size + 1]? = some (.loop { rec .ready none with state := .busy }) ∧
            (W3.putObj (w.heap.size + 1) (.loop (rec (if jump.isNone then .ready else .done) jump))).heap[w.heap.size + 1]? = some (.loop (rec (if jump.isNone then .ready else .done) jump)) ∧
            (W3.putObj (w.heap.size + 1) (.loop (rec (if jump.isNone then .ready else .done) jump))).heap[w.heap.size]? = some (.deferred (some [])) := fun jump W3 hk3 => by
          have hl3 := hk3.same _ _ (by omega) hl2 rfl
          have := run_endRound (P := P) jump hl3
          rw [hrec] at this ⊢
          exact ⟨this, by rw [hrec] at hl3; exact hl3, World.putObj_heap_same (heap_lt hl3), (World.putObj_heap_other (by omega)).trans (hk3.same _ _ (Nat.le_refl _) hk2 rfl)⟩
        rintro e a3 W3 hp
        cases e with
        | normal =>
          obtain ⟨hk3, hkp3, hi3⟩ := hp
          obtain ⟨hr, hl3, hl4, hk4⟩ := fin none W3 hk3
          exact ⟨_, _, hr, .inl ⟨rfl, ⟨hI.putObj _ hi3 (by omega) hl3 rfl, hl4, hk4⟩, hkpa.trans ((hw2.trans hkp3).trans (hKb _ _ _ _ (by omega) hl3 rfl))⟩⟩
        | ret =>
          obtain ⟨hk3, hi3⟩ := hp
          obtain ⟨hr, hl3, hl4, hk4⟩ := fin (some .ret) W3 hk3
          exact ⟨_, _, hr, .inr ⟨rfl, .ret, (hIx _).putObj _ hi3 (by omega) hl3 rfl, hl4, hk4⟩⟩
        | exit id =>
          obtain ⟨hk3, hi3⟩ := hp
          obtain ⟨hr, hl3, hl4, hk4⟩ := fin (some (.exit id)) W3 hk3
          exact ⟨_, _, hr, .inr ⟨rfl, .exit id, (hIx _).putObj _ hi3 (by omega) hl3 rfl, hl4, hk4⟩⟩
        | goto t =>
          obtain ⟨hk3, hi3⟩ := hp
          obtain ⟨hr, hl3, hl4, hk4⟩ := fin (some (.goto t)) W3 hk3
          exact ⟨_, _, hr, .inr ⟨rfl, .goto t, (hIx _).putObj _ hi3 (by omega) hl3 rfl, hl4, hk4⟩⟩
        | panic ch => exact hp.elim
        | outgrown => exact hp.elim
      | _ => exact hrf.elim
    · rintro e W2 ⟨⟨v, rfl⟩, (⟨hi, hl, hk⟩ | ⟨pre, hSp, c, hi, hl, hk⟩)⟩
      · exact ⟨none, _, by have := run_endLoop (P := P) hl (by rw [hrec]; simp); rw [hrec] at this; exact this, hdone _ _ (Nat.le_refl _) (hI.putObj _ hi (by omega) hl rfl) ((World.putObj_heap_other (by omega)).trans hk)⟩
      · exact ⟨some c, _, by have := run_endLoop (P := P) hl (by rw [hrec]; simp); rw [hrec] at this; exact this, wpIn_wide.2 (hstop _ c pre _ (Nat.le_refl _) hSp ((hIx c).putObj _ hi (by omega) hl rfl) ((World.putObj_heap_other (by omega)).trans hk))⟩

/-- Behind a function's return: of what no cells are, from B on, something may have been shut; all else is as it was. -/
structure Shut (B : Nat) (W W' : World) : Prop where
  os : W'.os = W.os
  tape : W'.tape = W.tape
  output : W'.output = W.output
  size : W'.heap.size = W.heap.size
  low : ∀ k, k < B → W'.heap[k]? = W.heap[k]?
  cells : ∀ (k : Nat) (o : Obj), W.heap[k]? = some o → o.isCells = true → W'.heap[k]? = some o
theorem Shut.refl (B : Nat) (W : World) : Shut B W W := ⟨rfl, rfl, rfl, rfl, fun _ _ => rfl, fun _ _ h _ => h⟩
theorem Shut.trans {B : Nat} {X Y Z : World} (h : Shut B X Y) (k : Shut B Y Z) : Shut B X Z :=
  ⟨k.os.trans h.os, k.tape.trans h.tape, k.output.trans h.output, k.size.trans h.size, fun i hi => (k.low i hi).trans (h.low i hi), fun i o ho hc => k.cells i o (h.cells i o ho hc) hc⟩
theorem Shut.putObj {B D : Nat} {W : World} {o : Obj} (hB : B ≤ D) (h : W.heap[D]? = some o) (hc : o.isCells = false) (o' : Obj) : Shut B W (W.putObj D o') :=
  ⟨rfl, rfl, rfl, by simp, fun k hk => World.putObj_heap_other (by omega), fun k o2 ho hc2 => (World.putObj_heap_other (by rintro rfl; rw [h] at ho; cases ho; rw [hc] at hc2; cases hc2)).trans ho⟩
theorem Shut.upd {B : Nat} {S : Nat → Prop} {w W W' : World} (h : Shut B W W') (k : Upd S w W) (hB : w.heap.size ≤ B) : Upd S w W' :=
  ⟨h.os.trans k.os, h.tape.trans k.tape, h.output.trans k.output, by rw [h.size]; exact k.size, fun i hi hs => (h.low i (by omega)).trans (k.block i hi hs)⟩
theorem Shut.cell {B : Nat} {W W' : World} (h : Shut B W W') {a : Addr} {v : Value} (hk : W.cell? a = some v) : W'.cell? a = some v := by
  obtain ⟨o, ho, hc⟩ := cells_of_cell hk
  exact (World.cell?_of_block ((h.cells _ o ho hc).trans ho.symm)).trans hk

theorem calls_marks {f : FuncId} {fn : Func} {c : Code} {args : Array Value} {w : World} {R : Ending → World → Prop}
    (hf : P.funcs[f]? = some fn) (hb : fn.body = some c)
    (h : c.wp P (bodyPostM Fence.wide 9 P fn R) { tmps := args ++ Array.replicate (fn.ntmps - args.size) undef, defers := [] } w) : Calls P f args w R :=
  of_wide (callsIn_of_wp_marks hf hb trivial (wpIn_wide.2 h) rfl)

/-- The end of a function whose deferred calls are marks of its loops alone. -/
theorem fin_marks {n B : Nat} {fn : Func} {R : Ending → World → Prop} (tmps : Array Value) : ∀ (ds : List Nat) (W : World), ds.Nodup → (∀ D ∈ ds, B ≤ D ∧ W.heap[D]? = some (.deferred (some []))) →
    (∀ W', Shut B W W' → ∃ v, (results fn tmps).run P W' = .ok v W' ∧ R (.returned v) W') →
    LeavesInM Fence.wide n P fn tmps R (ds.map fun D => { target := .collected D, args := #[] }) .returning W := by
  intro ds
  induction ds with
  | nil =>
    intro W _ _ h
    obtain ⟨v, hv, hR⟩ := h W (Shut.refl _ _)
    exact ⟨v, hv, hR⟩
  | cons D ds ih =>
    intro W hn hd h
    obtain ⟨hB, hD⟩ := hd D (by simp)
    refine ⟨by simp, .inl ⟨D, _, rfl, run_takeDeferred hD, ?_⟩⟩
    refine ih _ (List.nodup_cons.1 hn).2 (fun E hE => ?_) (fun W' hW' => h W' ((Shut.putObj hB hD rfl _).trans hW'))
    obtain ⟨h1, h2⟩ := hd E (by simp [hE])
    exact ⟨h1, (World.putObj_heap_other (by rintro rfl; exact (List.nodup_cons.1 hn).1 hE)).trans h2⟩
/-- A walk stops at such an operation: 'go_wp2_with (refine stop_copy ?_)', then 'refine on ?_'. -/
theorem on {p : Prop} (h : p) : Hid p := h
section
variable {ops : Array Oper} {Q : Exit → Act → World → Prop} {rest : List Oper} {a : Act} {w : World} {dst : Option Tmp} {ty : TypeId} {pos : String} {after : Array Edge} {gd : Option (Nat × Bool)}
theorem stop_builtin (b : Builtin) {args : Array Operand} {ts : Array TypeId} (h : Hid (wpList P ops Q (⟨dst, .call ⟨.builtin b, args, ts⟩, ty, pos, after, gd⟩ :: rest) a w)) : wpList P ops Q (⟨dst, .call ⟨.builtin b, args, ts⟩, ty, pos, after, gd⟩ :: rest) a w := h
theorem stop_make {t : TypeId} {x y : Operand} (h : Hid (wpList P ops Q (⟨dst, .makeSlice t x y, ty, pos, after, gd⟩ :: rest) a w)) : wpList P ops Q (⟨dst, .makeSlice t x y, ty, pos, after, gd⟩ :: rest) a w := h
theorem stop_load (t : TypeId) {x : Operand} (h : Hid (wpList P ops Q (⟨dst, .load t x, ty, pos, after, gd⟩ :: rest) a w)) : wpList P ops Q (⟨dst, .load t x, ty, pos, after, gd⟩ :: rest) a w := h
theorem stop_store (t : TypeId) {x y : Operand} (h : Hid (wpList P ops Q (⟨dst, .store t x y, ty, pos, after, gd⟩ :: rest) a w)) : wpList P ops Q (⟨dst, .store t x y, ty, pos, after, gd⟩ :: rest) a w := h
theorem stop_dst (d : Tmp) {op : Op} (h : Hid (wpList P ops Q (⟨some d, op, ty, pos, after, gd⟩ :: rest) a w)) : wpList P ops Q (⟨some d, op, ty, pos, after, gd⟩ :: rest) a w := h
variable {F : Fence} {n : Nat}
theorem gstop_builtin (b : Builtin) {args : Array Operand} {ts : Array TypeId} (h : Hid (wpListIn F n P ops Q (⟨dst, .call ⟨.builtin b, args, ts⟩, ty, pos, after, gd⟩ :: rest) a w)) : wpListIn F n P ops Q (⟨dst, .call ⟨.builtin b, args, ts⟩, ty, pos, after, gd⟩ :: rest) a w := h
theorem gstop_make {t : TypeId} {x y : Operand} (h : Hid (wpListIn F n P ops Q (⟨dst, .makeSlice t x y, ty, pos, after, gd⟩ :: rest) a w)) : wpListIn F n P ops Q (⟨dst, .makeSlice t x y, ty, pos, after, gd⟩ :: rest) a w := h
theorem gstop_dst (d : Tmp) {op : Op} (h : Hid (wpListIn F n P ops Q (⟨some d, op, ty, pos, after, gd⟩ :: rest) a w)) : wpListIn F n P ops Q (⟨some d, op, ty, pos, after, gd⟩ :: rest) a w := h
end
theorem ret_int {k : IntKind} {a b : Int} (h : a = b) : Ending.returned (.int k a) = .returned (.int k b) := by rw [h]
theorem ownFrom_block {β : Type} {B k : Nat} (hk : k < B) (f : β → Obj) : OwnFrom B (fun s W => W.heap[k]? = some (f s)) := fun _ _ _ _ hs hg hr => (hg.block k (heap_lt hs) (fun e => by have := (hr k e.symm).1; omega)).trans hs
theorem ownFrom_upd {β : Type} {B : Nat} {S : Nat → Prop} {w : World} (hB : w.heap.size ≤ B) : OwnFrom B (fun (_ : β) W => Upd S w W) := fun _ _ _ _ hs hg hr => hs.grown hg (fun k e => .inl (by have := (hr k e).1; omega))
theorem ownFrom_false {β : Type} {B : Nat} : OwnFrom B (fun (_ : β) (_ : World) => False) := fun _ _ _ _ hs _ _ => hs
end Go.Proofs.Ytoondlbagbgbmaa
