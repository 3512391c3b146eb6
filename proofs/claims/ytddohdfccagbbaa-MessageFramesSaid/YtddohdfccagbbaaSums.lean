/- sums.bits, sums.rest, sums.Long: what they compute. -/
import Derived.Test.YtddohdfccagbbaaRows
import Derived.Test.YtddohdfccagbbaaBase
import Derived.Test.YtddohdfccagbbaaBytes
namespace Go.Proofs.Ytddohdfccagbbaa
open Go.RowKit Go.Shelf
attribute [local go_sem] Oper.semAt_some

theorem bits_calls (v : Value) (w : World) (a : Option Addr) (n c : Nat) (hv : v = .slice a n c) :
    Calls Try.prog 50 #[v] w fun e w' => e = .returned (.func (.func 51) #[] #[.pointer (some ⟨w.heap.size, 0, none⟩)]) ∧ w' = w.alloc (.cells #[v] 22) := by
  subst hv
  go_enter Try.func50, Try.ntmps50
  go_wp2
  go_ret
  exact ⟨rfl, rfl⟩

def bitAt (x : UInt8) (i : Nat) : Bool := x.toNat / 2 ^ i % 2 == 1
def bitsOf (x : UInt8) : List Bool := [bitAt x 7, bitAt x 6, bitAt x 5, bitAt x 4, bitAt x 3, bitAt x 2, bitAt x 1, bitAt x 0]
theorem bitsOf_get (x : UInt8) (m : Nat) (hm : m < 8) : bitsOf x = (bitsOf x).take m ++ bitAt x (7 - m) :: (bitsOf x).drop (m + 1) := by
  match m, hm with
  | 0, _ => rfl
  | 1, _ => rfl
  | 2, _ => rfl
  | 3, _ => rfl
  | 4, _ => rfl
  | 5, _ => rfl
  | 6, _ => rfl
  | 7, _ => rfl
theorem and_one_u8 (x : UInt8) (i : Nat) : (bits .and .u8 ((x.toNat : Int) / 2 ^ i) 1 == 1) = bitAt x i := by
  have h := x.toNat_lt
  have e : ((x.toNat : Int) / 2 ^ i) = ((x.toNat / 2 ^ i : Nat) : Int) := by simp
  have hd : x.toNat / 2 ^ i ≤ x.toNat := Nat.div_le_self _ _
  unfold bitAt
  generalize x.toNat / 2 ^ i = q at *
  rw [e, show (1 : Int) = 2 ^ 1 - 1 from rfl, bits_mask .u8 8 (by decide) wraps_u8 1 (by decide) _ (by omega) (by omega)]
  rw [Bool.eq_iff_iff]
  simp only [beq_iff_eq]
  omega
theorem take_succ_snoc {α : Type} {l p q : List α} {x : α} {m : Nat} (h : l = p ++ x :: q) (hp : p = l.take m) : l.take (m + 1) = l.take m ++ [x] := by
  have hm : m < l.length := by
    have h1 : l.length = p.length + (q.length + 1) := by rw [h]; simp
    have h2 : p.length = min m l.length := by rw [hp]; simp
    omega
  have h2 : p.length = m := by rw [hp]; simp; omega
  rw [List.take_succ_eq_append_getElem hm, ← hp]
  congr 2
  have : l[m]? = some x := by rw [h, ← h2]; simp
  simpa [List.getElem?_eq_getElem hm] using this
theorem flatMap_split {α β : Type} (f : α → List β) (l : List α) (k : Nat) (hk : k < l.length) (d : α) : l.flatMap f = (l.take k).flatMap f ++ (f (l[k]?.getD d) ++ (l.drop (k + 1)).flatMap f) := by
  have h : l = l.take k ++ (l[k]?.getD d :: l.drop (k + 1)) := by
    have : l[k]?.getD d = l[k] := by simp [hk]
    rw [this, List.getElem_cons_drop, List.take_append_drop]
  conv => lhs; rw [h]
  simp
theorem flatMap_take_succ {α β : Type} (f : α → List β) (l : List α) (k : Nat) (hk : k < l.length) (d : α) : (l.take (k + 1)).flatMap f = (l.take k).flatMap f ++ f (l[k]?.getD d) := by
  rw [List.take_succ_eq_append_getElem hk, List.flatMap_append]
  simp [hk]

set_option maxRecDepth 100000 in
set_option maxHeartbeats 1000000 in
theorem bits1_in (l Bs b off cap : Nat) (bs : List UInt8) (J Jx : List Bool → World → Prop) (S : Nat → Obj → Prop) (hSb : ∀ o, S b o) 
    (hY : ∀ pre x post W1, bs.flatMap bitsOf = pre ++ x :: post → J pre W1 → YieldAt Fence.wide 9 Try.prog l #[.bool x] W1 fun e W' =>
      (e = .returned (.bool true) ∧ J (pre ++ [x]) W' ∧ Keeps S W1 W') ∨ (e = .returned (.bool false) ∧ Jx (pre ++ [x]) W'))
    (hl : bs.length ≤ cap) (hc : cap ≤ maxLen)
    (W : World) (hBs : W.cell? ⟨Bs, 0, none⟩ = some (.slice (some ⟨b, off, none⟩) bs.length cap)) (hcell : ∀ j, j < bs.length → W.cell? ⟨b, off + j, none⟩ = some (.int .u8 ((bs[j]?.getD 0).toNat : Int))) (h0 : J [] W) :
    CallsIn Fence.wide 9 Try.prog 51 #[.func (.yield l) #[] #[], .pointer (some ⟨Bs, 0, none⟩)] W fun e W' => (∃ v, e = .returned v) ∧
      (J (bs.flatMap bitsOf) W' ∨ ∃ pre, pre <+: bs.flatMap bitsOf ∧ Jx pre W') := by
  unfold maxLen at hc
  refine callsIn_of_wp Try.func51 rfl trivial ?_ rfl
  simp only [Try.ntmps51, List.size_toArray, List.length_cons, List.length_nil, Nat.reduceAdd, Nat.reduceSub, Array.replicate_succ, Array.replicate_zero, List.push_toArray, List.append_toArray, List.nil_append, List.cons_append]
  gi_wp2
  gi_loopw [4, 5, 8] (fun _ _ i wr => ∃ k : Nat, k ≤ bs.length ∧ i = .int .i64 k ∧ J ((bs.take k).flatMap bitsOf) wr ∧ Keeps S W wr)
    (fun _ _ i _ => bs.length - (intOf i).toNat)
  case atStart => exact ⟨0, Nat.zero_le _, rfl, h0, Keeps.refl _ _⟩
  case round =>
    obtain ⟨k, hk, rfl, hJs, hnx⟩ := hrel
    by_cases hlt : k < bs.length
    · have hcx : wr.cell? ⟨b, off + k, none⟩ = some (.int .u8 ((bs[k]?.getD 0).toNat : Int)) := by
        exact hnx.cell (a := ⟨b, off + k, none⟩) hSb (hcell k hlt)
      obtain ⟨x, hx⟩ : ∃ x, x = bs[k]?.getD 0 := ⟨_, rfl⟩
      have hsplit : bs.flatMap bitsOf = (bs.take k).flatMap bitsOf ++ (bitsOf x ++ (bs.drop (k + 1)).flatMap bitsOf) := by
        exact flatMap_split bitsOf bs k hlt 0 |>.trans (by rw [← hx])
      have hsucc := flatMap_take_succ bitsOf bs k hlt 0
      rw [← hx] at hcx hsucc
      have HX := Lib.hid hx
      have HS := Lib.hid hsplit
      have HT := Lib.hid hsucc
      clear hx hsplit hsucc
      gi_wp2
      gi_loopw [5] (fun i wr => ∃ m : Nat, m ≤ 8 ∧ i = .int .i64 (7 - (m : Int)) ∧ J ((bs.take k).flatMap bitsOf ++ (bitsOf x).take m) wr ∧ Keeps S W wr)
        (fun i _ => (intOf i + 1).toNat)
      case atStart => exact ⟨0, by omega, rfl, by simpa using hJs, hnx⟩
      case round =>
        obtain ⟨m, hm, rfl, hJm, hnm⟩ := hrel
        by_cases hm8 : m < 8
        · have hg := bitsOf_get x m hm8
          have hfull : bs.flatMap bitsOf = ((bs.take k).flatMap bitsOf ++ (bitsOf x).take m) ++ (bits .and .u8 ((x.toNat : Int) / 2 ^ (7 - m)) 1 == 1) :: ((bitsOf x).drop (m + 1) ++ (bs.drop (k + 1)).flatMap bitsOf) := by
            rw [and_one_u8, HS.out]
            conv => lhs; rw [hg]
            simp
          have hstep : ((bs.take k).flatMap bitsOf ++ (bitsOf x).take m) ++ [(bits .and .u8 ((x.toNat : Int) / 2 ^ (7 - m)) 1 == 1)] = (bs.take k).flatMap bitsOf ++ (bitsOf x).take (m + 1) := by
            rw [and_one_u8, take_succ_snoc hg rfl, List.append_assoc]
          obtain ⟨fn, tmps, assign, body, hy, hR⟩ := hY _ _ _ wr hfull hJm
          rw [hstep] at hR
          have HF := Lib.hid hfull
          have HG := Lib.hid hg
          have HP := Lib.hid hstep
          clear hg hfull hstep
          gi_wp2
          refine (round_any hR).mono ?_
          rintro e W3 (⟨rfl, hJ3, hk3⟩ | ⟨rfl, hJx3⟩)
          · gi_wp2
            go_roundw
            case rel => exact ⟨m + 1, by omega, by go_num, hJ3, hnm.trans hk3⟩
            case measure => simp [intOf]; omega
          · gi_wp2
            refine bodyPost_ret (results_none rfl _ _ _) rfl ?_
            exact ⟨⟨_, rfl⟩, .inr ⟨_, ⟨(bitsOf x).drop (m + 1) ++ (bs.drop (k + 1)).flatMap bitsOf, by rw [← HP.out, HF.out]; simp⟩, hJx3⟩⟩
        · obtain rfl : m = 8 := by omega
          gi_wp2
          go_roundw
          case rel => exact ⟨k + 1, by omega, by go_num, by rw [HT.out]; exact hJm, hnm⟩
          case measure => simp [intOf]; omega
    · obtain rfl : k = bs.length := by omega
      gi_wp2
      go_end0
      exact ⟨⟨_, rfl⟩, .inl (by simpa using hJs)⟩

set_option maxRecDepth 100000 in
set_option maxHeartbeats 1000000 in
theorem bits1_nil (l Bs : Nat) (J : List Bool → World → Prop) (W : World) (hBs : W.cell? ⟨Bs, 0, none⟩ = some (.slice none 0 0)) (h0 : J [] W) :
    CallsIn Fence.wide 9 Try.prog 51 #[.func (.yield l) #[] #[], .pointer (some ⟨Bs, 0, none⟩)] W fun e W' => (∃ v, e = .returned v) ∧ J [] W' := by
  refine callsIn_of_wp Try.func51 rfl trivial ?_ rfl
  simp only [Try.ntmps51, List.size_toArray, List.length_cons, List.length_nil, Nat.reduceAdd, Nat.reduceSub, Array.replicate_succ, Array.replicate_zero, List.push_toArray, List.append_toArray, List.nil_append, List.cons_append]
  gi_wp2
  gi_loopw [8] (fun i wr => i = .int .i64 0 ∧ J [] wr) (fun _ _ => 0)
  case atStart => exact ⟨rfl, h0⟩
  case round =>
    obtain ⟨rfl, hJs⟩ := hrel
    gi_wp2
    go_end0
    exact ⟨⟨_, rfl⟩, hJs⟩

theorem bits_iter (Bs : Nat) (v : Value) (bs : List UInt8) (S : Nat → Obj → Prop) (hS : ∀ k o, v.ownBlock = some k → S k o) (w : World) (hBs : w.cell? ⟨Bs, 0, none⟩ = some v) (hb : Bytes w v bs) :
    Iter Try.prog 51 #[.pointer (some ⟨Bs, 0, none⟩)] (fun x : Bool => #[.bool x]) S (bs.flatMap bitsOf) w := by
  intro l J Jx W hW _ _ hY h0
  have hc := hW.cell hBs (by simp [No])
  rcases hb.upd hW (by simp [No]) with ⟨rfl, rfl⟩ | ⟨b, off, cap, rfl, h1, h2, h3, h4⟩
  · exact (bits1_nil l Bs J W hc h0).mono fun e W' ⟨he, hj⟩ => ⟨he, .inl hj⟩
  · exact bits1_in l Bs b off cap bs J Jx S (fun o => hS _ o rfl) hY h1 h2 W hc h4 h0

theorem nat_bne (n : Nat) : (n != 0) = ((n : Int) != 0) := by
  rw [Bool.eq_iff_iff, bne_iff_ne, bne_iff_ne]
  omega
theorem u32_ops (a b : Nat) (ha : a < 4294967296) (hb : b < 4294967296) : bits .and .u32 (a : Int) (b : Int) = ((a &&& b : Nat) : Int) ∧ bits .or .u32 (a : Int) (b : Int) = ((a ||| b : Nat) : Int) ∧ bits .xor .u32 (a : Int) (b : Int) = ((a ^^^ b : Nat) : Int) := by
  have ha' : a % 2 ^ IntKind.u32.bits = a := Nat.mod_eq_of_lt ha
  have hb' : b % 2 ^ IntKind.u32.bits = b := Nat.mod_eq_of_lt hb
  have hw : ∀ n : Nat, n < 4294967296 → IntKind.u32.wrap (n : Int) = n := fun n h => by rw [IntKind.wrap_u32]; omega
  refine ⟨?_, ?_, ?_⟩
  · simp only [bits, BitVec.ofInt_natCast, BitVec.toNat_and, BitVec.toNat_ofNat, ha', hb']
    exact hw _ (Nat.and_lt_two_pow (n := 32) _ hb)
  · simp only [bits, BitVec.ofInt_natCast, BitVec.toNat_or, BitVec.toNat_ofNat, ha', hb']
    exact hw _ (Nat.or_lt_two_pow (n := 32) ha hb)
  · simp only [bits, BitVec.ofInt_natCast, BitVec.toNat_xor, BitVec.toNat_ofNat, ha', hb']
    exact hw _ (Nat.xor_lt_two_pow (n := 32) ha hb)
/-- One round of a register. -/
def regStep (top mask by_ r : Nat) (bit : Bool) : Nat := if (r &&& top != 0) == bit then (r * 2 % 4294967296) &&& mask else ((r * 2 % 4294967296) &&& mask) ^^^ by_
theorem regStep_lt (top mask by_ r : Nat) (bit : Bool) (hm : mask < 4294967296) (hby : by_ < 4294967296) : regStep top mask by_ r bit < 4294967296 := by
  have h : (r * 2 % 4294967296) &&& mask < 4294967296 := Nat.and_lt_two_pow (n := 32) _ hm
  unfold regStep
  split
  · exact h
  · exact Nat.xor_lt_two_pow (n := 32) h hby
theorem foldl_lt (top mask by_ : Nat) (hm : mask < 4294967296) (hby : by_ < 4294967296) (l : List Bool) : ∀ r, r < 4294967296 → l.foldl (regStep top mask by_) r < 4294967296 := by
  induction l with
  | nil => exact fun r h => h
  | cons b l ih => exact fun r _ => ih _ (regStep_lt top mask by_ r b hm hby)

set_option maxRecDepth 100000 in
set_option maxHeartbeats 1000000 in
theorem rest_calls (a : Option Addr) (n c : Nat) (bs : List UInt8) (r top by_ : Nat) (hr : r < 4294967296) (ht : top < 4294967296) (hby : by_ < 4294967296) (w : World) (hb : Bytes w (.slice a n c) bs) :
    Calls Try.prog 46 #[.slice a n c, .int .u32 (r : Int), .int .u32 (top : Int), .int .u32 (by_ : Int)] w fun e w' => e = .returned (.int .u32 ((bs.flatMap bitsOf).foldl (regStep top ((top * 2 + 4294967295) % 4294967296) by_) r : Nat)) ∧ Upd No w w' := by
  obtain ⟨mask, hmask⟩ : ∃ mask : Nat, mask = (top * 2 + 4294967295) % 4294967296 := ⟨_, rfl⟩
  have hm : ((top : Int) * 2 - 1) % 4294967296 = (mask : Int) := by omega
  have hm' : mask < 4294967296 := by omega
  rw [← hmask]
  have HM := Lib.hid hm
  clear hmask hm
  refine calls_marks Try.func46 rfl ?_
  simp only [Try.ntmps46, List.size_toArray, List.length_cons, List.length_nil, Nat.reduceAdd, Nat.reduceSub, Array.replicate_succ, Array.replicate_zero, List.push_toArray, List.append_toArray, List.nil_append, List.cons_append]
  go_wp2
  go_step3
  go_wp2
  go_step3
  go_wp2_with fail
  refine (bits_calls _ _ a n c rfl).mono ?_
  rintro e w1 ⟨rfl, rfl⟩
  rw [HM.out]
  go_wp2_with fail
  have hIo : OwnFrom (w.heap.size + 5) (fun (pre : List Bool) W => W.heap[w.heap.size]? = some (.cells #[.int .u32 (pre.foldl (regStep top mask by_) r : Nat)] 69 (0, 0)) ∧ W.heap[w.heap.size + 1]? = some (.cells #[.int .u32 top] 69 (0, 0)) ∧ W.heap[w.heap.size + 1 + 1]? = some (.cells #[.int .u32 by_] 69 (0, 0)) ∧ W.heap[w.heap.size + 1 + 1 + 1]? = some (.cells #[.int .u32 mask] 69 (0, 0)) ∧ Upd No w W) :=
    (ownFrom_block (by omega) _).and ((ownFrom_block (by omega) _).and ((ownFrom_block (by omega) _).and ((ownFrom_block (by omega) _).and (ownFrom_upd (by omega)))))
  have hbs := hb
  refine range_out (gf := 51) (lb := #[.pointer (some ⟨w.heap.size + 1 + 1 + 1 + 1, 0, none⟩)]) rfl (enters_of Try.func51 (by kernel_rfl) rfl)
    (bits_iter (w.heap.size + 1 + 1 + 1 + 1) (.slice a n c) bs (fun k _ => (Value.slice a n c).ownBlock = some k) (fun k o h => h) _ (by simp [go_sem]) (hb.upd (S := No) (((((Upd.refl _ _).alloc _).alloc _).alloc _).alloc _ |>.alloc _) (by simp [No])))
    ?hS (fun _ => rfl) _
    (fun _ _ _ => False) (by simp only [World.size_alloc]; exact hIo) (fun _ => ownFrom_false) ?h0 ?round ?done ?stop
  case hS =>
    intro k o hk
    left
    rcases hbs with ⟨h, _⟩ | ⟨b, off, cap, h, _, _, h3, _⟩
    · rw [h] at hk; cases hk
    · rw [h] at hk; cases hk; simp; omega
  case h0 =>
    refine ⟨?_, ?_, ?_, ?_, (((((Upd.refl _ _).alloc _).alloc _).alloc _).alloc _).alloc _⟩
    · exact block_old (block_old (block_old (block_old (block_new w _) _) _) _) _
    · exact block_old (block_old (block_old (by rw [← World.size_alloc]; exact block_new _ _) _) _) _
    · exact block_old (block_old (by rw [← World.size_alloc, ← World.size_alloc]; exact block_new _ _) _) _
    · exact block_old (by rw [← World.size_alloc, ← World.size_alloc, ← World.size_alloc]; exact block_new _ _) _
  case round =>
    rintro l pre x post W hx hl hi
    gi_wp2
    refine .plain (by simp only [World.size_alloc]; exact hIo) hi ?_
    rintro W ⟨hr', ht', hb, hm, hU⟩
    have hρ := foldl_lt top mask by_ hm' hby pre r hr
    have hst : pre.foldl (regStep top mask by_) r = pre.foldl (regStep top mask by_) r := rfl
    generalize hρe : pre.foldl (regStep top mask by_) r = ρ at *
    have Hρ := Lib.hid hρe
    clear hρe hst
    have c1 := cells_at hr'
    have c2 := cells_at ht'
    have c3 := cells_at hb
    have c4 := cells_at hm
    have o1 := (u32_ops ρ top hρ ht).1
    have hsh : ((ρ : Int) * 2 % 4294967296) = ((ρ * 2 % 4294967296 : Nat) : Int) := by omega
    have o2 := (u32_ops (ρ * 2 % 4294967296) mask (by omega) hm').1
    have hlt2 : ρ * 2 % 4294967296 &&& mask < 4294967296 := Nat.and_lt_two_pow (n := 32) _ hm'
    have o3 := (u32_ops (ρ * 2 % 4294967296 &&& mask) by_ hlt2 hby).2.2
    rw [← hsh] at o2
    clear hsh
    gi_wp2
    all_goals have hkp : ∀ (X : World), Upd (One w.heap.size) W X → Keeps (fun k _ => (Value.slice a n c).ownBlock = some k) W X := fun X hX =>
      hX.keeps (fun k o hk _ ho => by
        rcases hbs with ⟨h, _⟩ | ⟨b, off, cap, h, _, _, h3, _⟩
        · rw [h] at ho; cases ho
        · rw [h] at ho; cases ho; simp [One] at hk; omega)
    · have hstep : (pre ++ [x]).foldl (regStep top mask by_) r = (ρ * 2 % 4294967296) &&& mask := by
        rw [List.foldl_append, Hρ.out]
        have h : ((ρ &&& top != 0) == x) = true := by rename_i h; rw [← h]; rw [nat_bne]
        simp only [List.foldl_cons, List.foldl_nil, regStep, h, if_true]
      exact ⟨(KeepsOthers.setCell _ _ _).from _, hkp _ ((Upd.refl (One _) _).setCell (.inr (by simp [One])) _), by rw [hstep]; exact block_set hr' _, block_other ht' (by simp <;> omega) _, block_other hb (by simp <;> omega) _, block_other hm (by simp <;> omega) _, hU.setCell (.inl (Nat.le_refl _)) _⟩
    · have hstep : (pre ++ [x]).foldl (regStep top mask by_) r = ((ρ * 2 % 4294967296) &&& mask) ^^^ by_ := by
        rw [List.foldl_append, Hρ.out]
        have h : ((ρ &&& top != 0) == x) = false := by rename_i h; rw [← h]; rw [nat_bne]
        simp only [List.foldl_cons, List.foldl_nil, regStep, h]; simp
      exact ⟨((KeepsOthers.setCell _ _ _).trans (KeepsOthers.setCell _ _ _)).from _, hkp _ (((Upd.refl (One _) _).setCell (.inr (by simp [One])) _).setCell (.inr (by simp [One])) _), by rw [hstep]; exact block_set (block_set hr' _) _, block_other (block_other ht' (by simp <;> omega) _) (by simp <;> omega) _, block_other (block_other hb (by simp <;> omega) _) (by simp <;> omega) _, block_other (block_other hm (by simp <;> omega) _) (by simp <;> omega) _, (hU.setCell (.inl (Nat.le_refl _)) _).setCell (.inl (Nat.le_refl _)) _⟩
  case done =>
    rintro D W hD ⟨hr, ht, hb, hm, hU⟩ hK
    have c1 := cells_at hr
    go_wp2
    rw [Exit.noGoto_ret]
    refine fin_marks (B := w.heap.size) _ [D] W (by simp) (by simp; exact ⟨by simp at hD; omega, hK⟩) (fun W' hW' => ⟨_, results_tmp rfl _ _ _, rfl, hW'.upd hU (Nat.le_refl _)⟩)
  case stop =>
    rintro D c pre W _ _ h _
    exact h.elim

/-- CRC-32's register. -/
def crc (bs : List UInt8) : Nat := (bs.flatMap bitsOf).foldl (regStep 2147483648 4294967295 79764919) 4294967295
theorem crc_lt (bs : List UInt8) : crc bs < 4294967296 := foldl_lt _ _ _ (by decide) (by decide) _ _ (by decide)
def longOf (bs : List UInt8) : Nat := 4294967295 ^^^ crc bs
theorem longOf_lt (bs : List UInt8) : longOf bs < 4294967296 := Nat.xor_lt_two_pow (n := 32) (by decide) (crc_lt bs)
set_option maxRecDepth 100000 in
set_option maxHeartbeats 1000000 in
theorem long_calls (a : Option Addr) (n c : Nat) (bs : List UInt8) (w : World) (hb : Bytes w (.slice a n c) bs) :
    Calls Try.prog 38 #[.slice a n c] w fun e w' => e = .returned (.int .u32 (longOf bs : Nat)) ∧ Upd No w w' := by
  have hlt := crc_lt bs
  have h := rest_calls a n c bs 4294967295 2147483648 79764919 (by decide) (by decide) (by decide) w hb
  rw [show (bs.flatMap bitsOf).foldl (regStep 2147483648 ((2147483648 * 2 + 4294967295) % 4294967296) 79764919) 4294967295 = crc bs from rfl] at h
  unfold longOf
  generalize crc bs = q at *
  have H := Lib.hid h
  clear h
  go_enter Try.func38, Try.ntmps38
  go_wp2_with fail
  refine (H.out).mono ?_
  rintro e w1 ⟨rfl, hU⟩
  go_wp2
  go_ret
  have e : bits BinOp.xor IntKind.u32 IntKind.u32.max (q : Int) = ((4294967295 ^^^ q : Nat) : Int) := (u32_ops 4294967295 q (by decide) hlt).2.2
  exact ⟨by rw [← e]; rfl, hU⟩
end Go.Proofs.Ytddohdfccagbbaa
