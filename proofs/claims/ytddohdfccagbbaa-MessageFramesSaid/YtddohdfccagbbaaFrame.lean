/- frame.Many, sum, Pack, Unpack, Cells: what they compute. -/
import Derived.Test.YtddohdfccagbbaaRows
import Derived.Test.YtddohdfccagbbaaBase
import Derived.Test.YtddohdfccagbbaaBytes
import Derived.Test.YtddohdfccagbbaaSums
namespace Go.Proofs.Ytddohdfccagbbaa
open Go.RowKit Go.Shelf
attribute [local go_sem] Oper.semAt_some

def partsOf (n : Nat) : Nat := if n = 0 then 0 else (n + 55) / 48
theorem many_zero (w : World) : Calls Try.prog 16 #[.int .i64 0] w fun e w' => e = .returned (.int .i64 0) ∧ w' = w := by
  go_enter Try.func16, Try.ntmps16
  go_wp2
  go_ret
  exact ⟨rfl, rfl⟩
theorem many_pos (n : Int) (h : 1 ≤ n) (h' : n ≤ 1000000000000) (w : World) : Calls Try.prog 16 #[.int .i64 n] w fun e w' => e = .returned (.int .i64 ((n + 55) / 48)) ∧ w' = w := by
  go_enter Try.func16, Try.ntmps16
  go_wp2
  go_ret
  exact ⟨ret_int (by omega), rfl⟩
theorem many_calls (n : Int) (h : 0 ≤ n) (h' : n ≤ 1000000000000) (w : World) : Calls Try.prog 16 #[.int .i64 n] w fun e w' => e = .returned (.int .i64 (partsOf n.toNat : Nat)) ∧ w' = w := by
  obtain ⟨n, rfl⟩ := Int.eq_ofNat_of_zero_le h
  unfold partsOf
  by_cases h0 : n = 0
  · subst h0
    exact many_zero w
  · rw [Int.toNat_natCast, if_neg h0]
    exact (many_pos n (by omega) h' w).mono fun e w' ⟨he, hw⟩ => ⟨by rw [he]; congr 2, hw⟩

def sumBytes (bs : List UInt8) : List UInt8 := [UInt8.ofNat (longOf bs / 16777216), UInt8.ofNat (longOf bs / 65536), UInt8.ofNat (longOf bs / 256), UInt8.ofNat (longOf bs)]
set_option maxRecDepth 100000 in
set_option maxHeartbeats 1000000 in
theorem sum_calls (v : Value) (bs : List UInt8) (w : World) (hb : Bytes w v bs) :
    Calls Try.prog 24 #[v] w fun e w' => e = .returned (.slice (some ⟨w'.heap.size - 1, 0, none⟩) 4 4) ∧ w'.heap[w'.heap.size - 1]? = some (.cells (rowOf (sumBytes bs)) 5 (0, 0)) ∧ w.heap.size < w'.heap.size ∧ Upd No w w' := by
  obtain ⟨a, c, rfl, hsh⟩ := hb.shape
  have hL := long_calls a bs.length c bs w hb
  have hlt := longOf_lt bs
  unfold sumBytes
  generalize longOf bs = q at *
  have H := Lib.hid hL
  have HB := Lib.hid hb
  clear hL hb hsh
  go_enter Try.func24, Try.ntmps24
  go_wp2_with fail
  refine H.out.mono ?_
  rintro e w1 ⟨rfl, hU⟩
  go_wp2
  go_ret
  refine ⟨by simp, ?_, by have := hU.size; simp; omega, hU.alloc _⟩
  simp only [World.size_alloc, Nat.add_sub_cancel]
  rw [block_new]
  have e : ∀ m : Nat, byteV (UInt8.ofNat m) = .int .u8 ((m : Int) % 256) := fun m => by simp [byteV]
  simp only [rowOf, List.map_cons, List.map_nil, e]
  congr 4
  simp
  omega

theorem equal_calls (v v2 : Value) (l l2 : List UInt8) (w : World) (h : Bytes w v l) (h2 : Bytes w v2 l2) :
    Calls Try.prog 31 #[v, v2] w fun e w' => e = .returned (.bool (l == l2)) ∧ w' = w := by
  have r1 := run_str h
  have r2 := run_str h2
  go_enter Try.func31, Try.ntmps31
  go_wp2
  go_ret
  exact ⟨rfl, rfl⟩

theorem clone_nil (w : World) : Calls Try.prog 34 #[.slice none 0 0] w fun e w' => e = .returned (.slice none 0 0) ∧ w' = w := by
  go_enter Try.func34, Try.ntmps34
  go_wp2
  go_ret
  exact ⟨rfl, rfl⟩
/-- A slice value in new memory that holds l. -/
def NewB (w : World) (l : List UInt8) (e : Ending) (w' : World) : Prop := ∃ v', e = .returned v' ∧ v' ≠ .slice none 0 0 ∧ OwnB w' w.heap.size v' l ∧ Upd No w w'
set_option maxRecDepth 100000 in
set_option maxHeartbeats 1000000 in
theorem clone_calls (ad : Addr) (n c : Nat) (l : List UInt8) (w : World) (h : Bytes w (.slice (some ad) n c) l) (hl : l.length ≤ 100000000000) :
    Calls Try.prog 34 #[.slice (some ad) n c] w (NewB w l) := by
  obtain ⟨v', w', hr, h1, h2, h3⟩ := run_app (w := w.alloc (.cells #[] 5)) (base := w.heap.size) (v := .slice (some ⟨w.heap.size, 0, none⟩) 0 0) (l := []) 22 (OwnB.made (l := []) (by simpa [rowOf] using block_new w (.cells #[] 5)) (Nat.le_refl _) (by simp)) (h.no ((Upd.refl _ _).alloc _)) (by simpa using by omega) (by simp)
  have HR := Lib.hid hr
  clear hr
  go_enter Try.func34, Try.ntmps34
  go_wp2_with (at_builtin; refine wpList_run rfl (exec_append rfl rfl rfl HR.out) ?_)
  go_ret
  refine ⟨v', rfl, fun h => ?_, by simpa using h1, ((Upd.refl No w).alloc _).grown h2 (fun k hk => ?_)⟩
  · have := h3.1 h
    simp at this
  · simp [Value.ownBlock] at hk
    omega

/-- Whether a byte that is not 0 is among them. -/
def anyByte (l : List UInt8) : Bool := l.any (· != 0)
def fnz (l : List UInt8) : Int := match l.findIdx? (· != 0) with | some i => (i : Int) | none => -1
theorem fnz_at {l : List UInt8} {k : Nat} (hk : k < l.length) (h0 : ∀ j, j < k → l[j]?.getD 0 = 0) (h : l[k]?.getD 0 ≠ 0) : fnz l = k := by
  have : l.findIdx? (· != 0) = some k := by
    rw [List.findIdx?_eq_some_iff_getElem]
    refine ⟨hk, by simpa [hk] using h, fun j hj => ?_⟩
    have := h0 j hj
    have hj2 : j < l.length := by omega
    simpa [hj2] using this
  rw [fnz, this]
theorem fnz_none {l : List UInt8} (h0 : ∀ j, j < l.length → l[j]?.getD 0 = 0) : fnz l = -1 := by
  have : l.findIdx? (· != 0) = none := by
    rw [List.findIdx?_eq_none_iff]
    intro x hx
    obtain ⟨j, hj, rfl⟩ := List.getElem_of_mem hx
    have := h0 j hj
    simpa [hj] using this
  rw [fnz, this]
theorem fnz_any (l : List UInt8) : decide (0 ≤ fnz l) = anyByte l := by
  have : anyByte l = (l.findIdx? (· != 0)).isSome := by simp [anyByte]
  rw [this, fnz]
  cases l.findIdx? (· != 0) <;> simp
set_option maxRecDepth 100000 in
set_option maxHeartbeats 1000000 in
theorem index_calls (v : Value) (l : List UInt8) (w : World) (h : Bytes w v l) (hl : l.length ≤ 100000000000) :
    Calls Try.prog 44 #[v, .func (.func 33) #[] #[]] w fun e w' => e = .returned (.int .i64 (fnz l)) ∧ w' = w := by
  rcases h with ⟨rfl, rfl⟩ | ⟨b, off, cap, rfl, h1, h2, h3, h4⟩
  · go_enter Try.func44, Try.ntmps44
    go_wp2
    go_loop [5, 8] (fun _ i => i = .int .i64 0) (fun _ _ => 0)
    case atStart => rfl
    case round =>
      subst hrel
      go_wp2
      go_ret
      exact ⟨rfl, rfl⟩
  · unfold maxLen at h2
    go_enter Try.func44, Try.ntmps44
    go_wp2
    go_loop [5, 8] (fun _ i => ∃ k : Nat, k ≤ l.length ∧ i = .int .i64 k ∧ Hid (∀ j, j < k → (l[j]?.getD 0) = 0)) (fun _ i => l.length - (intOf i).toNat)
    case atStart => exact ⟨0, by omega, rfl, fun j hj => absurd hj (by omega)⟩
    case round =>
      obtain ⟨k, hk, rfl, hz⟩ := hrel
      by_cases hlt : k < l.length
      · have hc := h4 k hlt
        obtain ⟨x, hx⟩ : ∃ x, x = l[k]?.getD 0 := ⟨_, rfl⟩
        rw [← hx] at hc
        have HX := Lib.hid hx
        clear h4 hx
        by_cases h0 : x = 0
        · have hb : ((x.toNat : Int) != 0) = false := by rw [← nat_bne, h0]; rfl
          have H0 := Lib.hid h0
          clear h0
          go_wp2
          go_round
          case rel =>
            refine ⟨k + 1, by omega, by go_num, fun j hj => ?_⟩
            by_cases e : j = k
            · rw [e, ← HX.out, H0.out]
            · exact hz.out j (by omega)
          case measure => simp [intOf]; omega
        · have hb : ((x.toNat : Int) != 0) = true := by
            rw [← nat_bne, bne_iff_ne]
            intro e
            exact h0 (UInt8.toNat_inj.1 (by simpa using e))
          have hf : fnz l = k := fnz_at hlt hz.out (by rw [← HX.out]; exact h0)
          have HF := Lib.hid hf
          clear h0 hf
          go_wp2
          go_ret
          exact ⟨by rw [HF.out]; rfl, rfl⟩
      · obtain rfl : k = l.length := by omega
        have hf : fnz l = -1 := fnz_none hz.out
        have HF := Lib.hid hf
        clear hf
        go_wp2
        go_ret
        exact ⟨by rw [HF.out]; rfl, rfl⟩
theorem contains_calls (v : Value) (l : List UInt8) (w : World) (h : Bytes w v l) (hl : l.length ≤ 100000000000) :
    Calls Try.prog 32 #[v, .func (.func 33) #[] #[]] w fun e w' => e = .returned (.bool (anyByte l)) ∧ w' = w := by
  have hi := index_calls v l w h hl
  rw [← fnz_any]
  have HI := Lib.hid hi
  clear hi
  go_enter Try.func32, Try.ntmps32
  go_wp2_with fail
  refine HI.out.mono ?_
  rintro e w1 ⟨rfl, rfl⟩
  go_wp2
  go_ret
  exact ⟨rfl, rfl⟩

/-- A text as a frame. -/
def frameBody (text : List UInt8) (mark : UInt8) : List UInt8 := text ++ List.replicate (48 * partsOf text.length - 8 - text.length) 0 ++ [mark, 0, UInt8.ofNat (text.length / 256), UInt8.ofNat text.length]
def frameOf (text : List UInt8) (mark : UInt8) : List UInt8 := frameBody text mark ++ sumBytes (frameBody text mark)
theorem parts_room (n : Nat) (h : 1 ≤ n) : n + 8 ≤ 48 * partsOf n := by unfold partsOf; rw [if_neg (by omega)]; omega
theorem parts_le (n : Nat) (h : n ≤ 1000) : partsOf n ≤ 21 := by unfold partsOf; split <;> omega
theorem pack_none (w : World) (m : UInt8) : Calls Try.prog 9 #[.slice none 0 0, byteV m] w fun e w' => e = .returned (.tuple #[.slice none 0 0, .int .i64 1]) ∧ w' = w := by
  go_enter Try.func9, Try.ntmps9
  go_wp2
  go_ret2
  exact ⟨rfl, rfl⟩
theorem pack_err (a : Option Addr) (n c : Nat) (w : World) (m : UInt8) (hn : n = 0 ∨ 1000 < n) (hn' : n ≤ 100000000000000) : Calls Try.prog 9 #[.slice a n c, byteV m] w fun e w' => e = .returned (.tuple #[.slice none 0 0, .int .i64 (if n = 0 then 1 else 6)]) ∧ w' = w := by
  by_cases h0 : n = 0
  · subst h0
    go_enter Try.func9, Try.ntmps9
    go_wp2
    go_ret2
    exact ⟨rfl, rfl⟩
  · rw [if_neg h0]
    have h1 : 1000 < n := by omega
    have h2 : ((n : Int) == 0) = false := by rw [beq_eq_false_iff_ne]; omega
    clear hn h0
    go_enter Try.func9, Try.ntmps9
    go_wp2
    go_ret2
    exact ⟨rfl, rfl⟩
/-- A slice value in new memory that holds l, and OK. -/
def NewBOk (w : World) (l : List UInt8) (e : Ending) (w' : World) : Prop := ∃ v', e = .returned (.tuple #[v', .int .i64 0]) ∧ v' ≠ .slice none 0 0 ∧ OwnB w' w.heap.size v' l ∧ Upd No w w'
set_option maxRecDepth 100000 in
set_option maxHeartbeats 1000000 in
theorem pack_calls (v : Value) (text : List UInt8) (m : UInt8) (w : World) (h : Bytes w v text) (h1 : 1 ≤ text.length) (h2 : text.length ≤ 1000) :
    Calls Try.prog 9 #[v, byteV m] w (NewBOk w (frameOf text m)) := by
  obtain ⟨a, c, rfl, _⟩ := h.shape
  have hr := parts_room text.length h1
  have hp := parts_le text.length h2
  obtain ⟨k, hk⟩ : ∃ k : Nat, k = 48 * partsOf text.length - 8 := ⟨_, rfl⟩
  have hk2 : 48 * ((partsOf text.length : Nat) : Int) - 8 = (k : Int) := by omega
  have hkl : text.length ≤ k := by omega
  have hk3 : k ≤ 1008 := by omega
  have hb0 : ((text.length : Int) == 0) = false := by rw [beq_eq_false_iff_ne]; omega
  have hbody : frameBody text m = (List.take 0 (List.replicate k (0 : UInt8)) ++ text.take (min text.length k) ++ List.drop (0 + min text.length k) (List.replicate k (0 : UInt8))) ++ [m, 0, UInt8.ofNat (text.length / 256), UInt8.ofNat text.length] := by
    unfold frameBody
    rw [Nat.min_eq_left hkl, ← hk]
    simp
  obtain ⟨F, hF⟩ : ∃ F, F = frameOf text m := ⟨_, rfl⟩
  obtain ⟨B, hB⟩ : ∃ B, B = frameBody text m := ⟨_, rfl⟩
  have hF2 : F = B ++ sumBytes B := by rw [hF, hB]; rfl
  rw [← hB] at hbody
  rw [← hF]
  have hBl : B.length ≤ 2000 := by rw [hbody]; simp; omega
  obtain ⟨L, hL⟩ : ∃ L, L = List.take 0 (List.replicate k (0 : UInt8)) ++ text.take (min text.length k) ++ List.drop (0 + min text.length k) (List.replicate k (0 : UInt8)) := ⟨_, rfl⟩
  have hLl : L.length = k := by rw [hL]; simp; omega
  have HL := Lib.hid hL
  have HLl := Lib.hid hLl
  clear hL hLl
  have HB := Lib.hid hbody
  have HF := Lib.hid hF2
  have HK := Lib.hid hk
  clear hk hF hF2 hB hbody
  go_enter Try.func9, Try.ntmps9
  go_wp2_with fail
  refine (many_calls _ (by omega) (by omega) _).mono ?_
  rintro e w1 ⟨rfl, rfl⟩
  rw [Int.toNat_natCast]
  go_wp2_with (with_reducible refine stop_make ?_)
  refine on (wpList_make_u8 rfl (.tmp 19) (.tmp 19) rfl k rfl rfl (by omega) ?_)
  go_wp2_with (with_reducible refine stop_builtin .copy ?_)
  refine on (wpList_copy_u8 rfl (.tmp 21) (.tmp 22) rfl w1.heap.size 0 k k rfl _ rfl (List.replicate k 0) text (block_new _ _) (h.no ((Upd.refl _ _).alloc _)) (by simp; omega) ?_)
  intro w2 hg2 hU2
  have hU3 := (((Upd.refl No w1).alloc (.cells (rowOf (List.replicate k 0)) 5)).then hU2 (fun i hi e => by simp [One] at e; omega))
  rw [← HL.out] at hg2
  have HG := Lib.hid hg2
  have hs2 := heap_lt hg2
  clear hg2 hU2
  go_wp2_with (with_reducible refine stop_builtin .append ?_)
  have hg3 : (w2.alloc (.cells #[byteV m, .int .u8 0, .int .u8 ((text.length : Int) / 256), .int .u8 ((text.length : Int) % 256)] 5)).heap[w2.heap.size]? = some (.cells (rowOf [m, 0, UInt8.ofNat (text.length / 256), UInt8.ofNat text.length]) 5 (0, 0)) := by
    rw [block_new]
    simp [rowOf, byteV]
    omega
  have ho2 : OwnB (w2.alloc (.cells #[byteV m, .int .u8 0, .int .u8 ((text.length : Int) / 256), .int .u8 ((text.length : Int) % 256)] 5)) w1.heap.size (.slice (some ⟨w1.heap.size, 0, none⟩) k k) L := by
    have := OwnB.made (base := w1.heap.size) HG.out (Nat.le_refl _) (by rw [HLl.out]; unfold maxLen; omega)
    rw [HLl.out] at this
    exact this.keep (S := No) ((Upd.refl _ _).alloc _) (fun _ _ h => h)
  refine on (wpList_append_u8 rfl (.tmp 24) (.tmp 31) rfl w1.heap.size (.slice (some ⟨w1.heap.size, 0, none⟩) k k) (.slice (some ⟨w2.heap.size, 0, none⟩) 4 4) rfl rfl L [m, 0, UInt8.ofNat (text.length / 256), UInt8.ofNat text.length] ho2 (Bytes.lit hg3 (by simp [maxLen])) (by rw [HLl.out]; simp; omega) (by simp; omega) ?_)
  intro v3 w3 ho3 hg3' hn3
  have hU4 := (hU3.alloc (.cells #[byteV m, .int .u8 0, .int .u8 ((text.length : Int) / 256), .int .u8 ((text.length : Int) % 256)] 5)).grown hg3' (fun i hi => .inl (by simp [Value.ownBlock] at hi; omega))
  rw [HL.out, ← HB.out] at ho3
  have hnn : v3 ≠ .slice none 0 0 := fun h => by simp at hn3; exact hn3 h
  have HO := Lib.hid ho3
  have HN := Lib.hid hnn
  clear ho2 hg3 ho3 hg3' hn3 hU3 hnn
  go_wp2_with fail
  refine (sum_calls _ B _ HO.out.bytes).mono ?_
  rintro e w4 ⟨rfl, hg4, hs4, hU5⟩
  have HG4 := Lib.hid hg4
  clear hg4
  go_wp2_with (with_reducible refine stop_builtin .append ?_)
  refine on (wpList_append_u8 rfl (.tmp 33) (.tmp 35) rfl w1.heap.size v3 (.slice (some ⟨w4.heap.size - 1, 0, none⟩) 4 4) rfl rfl B (sumBytes B) (HO.out.keep hU5 (fun _ _ h => h)) (Bytes.lit HG4.out (by simp [maxLen, sumBytes])) (by simp [sumBytes]; omega) (by have := hU4.size; omega) ?_)
  intro v5 w5 ho5 hg5 hn5
  rw [← HF.out] at ho5
  have hU6 := (hU4.trans hU5).grown hg5 (fun i hi => .inl (HO.out.ge i hi).1)
  have hnn : v5 ≠ .slice none 0 0 := fun h => HN.out (hn5.1 h).1
  have HO5 := Lib.hid ho5
  have HN5 := Lib.hid hnn
  clear ho5 hg5 hn5 hnn
  go_wp2
  go_ret2
  exact ⟨v5, rfl, HN5.out, HO5.out, hU6⟩

/-- A frame turned about: its text, its mark, the error. -/
def unpackOf (b : List UInt8) : List UInt8 × UInt8 × Nat :=
  if b.length = 0 ∨ b.length % 48 ≠ 0 then ([], 0, 5)
  else if b.drop (b.length - 4) ≠ sumBytes (b.take (b.length - 4)) then ([], 0, 4)
  else
    let t := b.drop (b.length - 8)
    let many := (t[2]?.getD 0).toNat * 256 + (t[3]?.getD 0).toNat
    if t[1]?.getD 0 ≠ 0 ∨ many = 0 ∨ partsOf many * 48 ≠ b.length then ([], 0, 5)
    else if anyByte ((b.take (b.length - 8)).drop many) = true then ([], 0, 5)
    else if 1000 < many then ([], 0, 6)
    else (b.take many, t[0]?.getD 0, 0)
def Unpacked (w : World) (r : List UInt8 × UInt8 × Nat) (e : Ending) (w' : World) : Prop :=
  ∃ v', e = .returned (.tuple #[v', byteV r.2.1, .int .i64 (r.2.2 : Nat)]) ∧ (r.2.2 ≠ 0 → v' = .slice none 0 0) ∧ OwnB w' w.heap.size v' r.1 ∧ Upd No w w'
theorem unpack_short (a : Option Addr) (n c : Nat) (w : World) (hn : n = 0 ∨ n % 48 ≠ 0) (hl : n ≤ 1000000000) : Calls Try.prog 20 #[.slice a n c] w fun e w' => e = .returned (.tuple #[.slice none 0 0, .int .u8 0, .int .i64 5]) ∧ w' = w := by
  by_cases h0 : n = 0
  · subst h0
    go_enter Try.func20, Try.ntmps20
    go_wp2
    go_ret3
    exact ⟨rfl, rfl⟩
  · have h1 : ((n : Int) == 0) = false := by rw [beq_eq_false_iff_ne]; omega
    have h2 : ((n : Int) % 48 != 0) = true := by rw [bne_iff_ne]; omega
    clear hn h0
    go_enter Try.func20, Try.ntmps20
    go_wp2
    go_ret3
    exact ⟨rfl, rfl⟩
set_option maxRecDepth 100000 in
set_option maxHeartbeats 1000000 in
theorem unpack_calls (b off cap : Nat) (l : List UInt8) (w : World) (h : Bytes w (.slice (some ⟨b, off, none⟩) l.length cap) l) (h0 : l.length ≠ 0) (h48 : l.length % 48 = 0) (hl : l.length ≤ 1000000000) :
    Calls Try.prog 20 #[.slice (some ⟨b, off, none⟩) l.length cap] w (Unpacked w (unpackOf l)) := by
  obtain ⟨n, hn⟩ : ∃ n, n = l.length := ⟨_, rfl⟩
  rw [← hn] at h h0 h48 hl ⊢
  have hn48 : 48 ≤ n := by omega
  have b1 : ((n : Int) == 0) = false := by rw [beq_eq_false_iff_ne]; omega
  have b2 : ((n : Int) % 48 != 0) = false := by rw [bne_eq_false_iff_eq]; omega
  have hc : n ≤ cap := h.known.2.1
  obtain ⟨R, hR⟩ : ∃ R, R = unpackOf l := ⟨_, rfl⟩
  rw [← hR]
  obtain ⟨m4, hm4⟩ : ∃ m4, m4 = n - 4 := ⟨_, rfl⟩
  obtain ⟨m8, hm8⟩ : ∃ m8, m8 = n - 8 := ⟨_, rfl⟩
  have e4 : IntKind.i64.wrap (m4 : Int) = (m4 : Int) := IntWalk.i64_in _ (by omega)
  have e4' : (n : Int) - 4 = (m4 : Int) := by omega
  have e8' : (n : Int) - 8 = (m8 : Int) := by omega
  have hs := h.sub m4 n (by omega) (by omega)
  have ht := h.sub 0 m4 (by omega) (by omega)
  have h8 := h.sub m8 n (by omega) (by omega)
  rw [show n - m4 = 4 from by omega] at hs
  rw [show n - m8 = 8 from by omega] at h8
  simp only [Nat.sub_zero, Nat.add_zero, List.drop_zero] at ht
  have hta : l.take n = l := List.take_of_length_le (by omega)
  rw [hta] at hs h8
  have s1 := sl_from (b := b) (off := off) (n := n) (cap := cap) m4 (lo := (m4 : Int)) rfl (by omega) (by omega) (m := 4) (c := cap - m4) (by omega) rfl
  have s2 := sl_to (b := b) (off := off) (n := n) (cap := cap) m4 (hi := (m4 : Int)) rfl (by omega)
  have s3 := sl_from (b := b) (off := off) (n := n) (cap := cap) m8 (lo := (m8 : Int)) rfl (by omega) (by omega) (m := 8) (c := cap - m8) (by omega) rfl
  obtain ⟨ok, hok⟩ : ∃ ok, ok = (l.drop m4 == sumBytes (l.take m4)) := ⟨_, rfl⟩
  have hb0 : b < w.heap.size := h.known.2.2.2.1
  have hc8 := h8.known.2.2.2.2
  have HC8 := Lib.hid hc8
  have HOK := Lib.hid hok
  have HN := Lib.hid hn
  have HR := Lib.hid hR
  have HB := Lib.hid h
  have HS := Lib.hid hs
  have HT := Lib.hid ht
  have H4 := Lib.hid hm4
  have H8 := Lib.hid hm8
  have H48 := Lib.hid h48
  have H0 := Lib.hid h0
  clear hn hR h h0 h48 hs ht hm4 hm8 h8 hok hc8 hta
  go_enter Try.func20, Try.ntmps20
  go_wp2
  go_region_with (first
    | (go_at_call 24; refine (sum_calls _ _ _ (HT.out.no ((Upd.refl _ _).drew))).mono ?_; rintro e w1 ⟨rfl, hg1, hs1, hU1⟩)
    | (go_at_call 31; have hU := ((Upd.refl No w).drew).trans hU1; refine (equal_calls _ _ _ _ _ (HS.out.no hU) (Bytes.lit (l := sumBytes (l.take m4)) hg1 (by simp [maxLen, sumBytes]))).mono ?_; rintro e w2 ⟨rfl, rfl⟩; rw [← HOK.out]))
  clear hg1 hs1 hU1
  cases ok with
  | false =>
    have hr : R = ([], 0, 4) := by
      rw [HR.out, unpackOf, if_neg (by have := H0.out; have := H48.out; have := HN.out; omega), if_pos (by rw [← HN.out, ← H4.out]; have := HOK.out; simpa using this.symm)]
    have HRR := Lib.hid hr
    clear hr
    go_wp2
    go_ret3
    exact ⟨_, by rw [HRR.out]; rfl, fun _ => rfl, by rw [HRR.out]; exact OwnB.nil _ _, hU⟩
  | true =>
    obtain ⟨t0, ht0⟩ : ∃ t, t = (l.drop m8)[0]?.getD 0 := ⟨_, rfl⟩
    obtain ⟨t1, ht1⟩ : ∃ t, t = (l.drop m8)[1]?.getD 0 := ⟨_, rfl⟩
    obtain ⟨t2, ht2⟩ : ∃ t, t = (l.drop m8)[2]?.getD 0 := ⟨_, rfl⟩
    obtain ⟨t3, ht3⟩ : ∃ t, t = (l.drop m8)[3]?.getD 0 := ⟨_, rfl⟩
    have c0 : w2.cell? ⟨b, off + m8, none⟩ = some (byteV t0) := by rw [ht0]; exact hU.cell (HC8.out 0 (by omega)) (fun h => h)
    have c1 : w2.cell? ⟨b, off + m8 + 1, none⟩ = some (byteV t1) := by rw [ht1]; exact hU.cell (HC8.out 1 (by omega)) (fun h => h)
    have c2 : w2.cell? ⟨b, off + m8 + 2, none⟩ = some (byteV t2) := by rw [ht2]; exact hU.cell (HC8.out 2 (by omega)) (fun h => h)
    have c3 : w2.cell? ⟨b, off + m8 + 3, none⟩ = some (byteV t3) := by rw [ht3]; exact hU.cell (HC8.out 3 (by omega)) (fun h => h)
    obtain ⟨many, hmany⟩ : ∃ many, many = t2.toNat * 256 + t3.toNat := ⟨_, rfl⟩
    have lt2 := t2.toNat_lt
    have lt3 := t3.toNat_lt
    have o1 : bits .or .i64 ((t2.toNat : Int) * 256) (t3.toNat : Int) = (many : Int) := by
      rw [bits_join .i64 63 (by decide) (fun n h0 h1 => by rw [IntKind.wrap_i64]; omega) 8 _ _ (by omega) (by omega) (by omega) (by omega) (by omega) (by omega)]
      omega
    have hml : many < 65536 := by omega
    have hr0 : R = (if t1 ≠ 0 ∨ many = 0 ∨ partsOf many * 48 ≠ n then ([], 0, 5) else if anyByte ((l.take m8).drop many) = true then ([], 0, 5) else if 1000 < many then ([], 0, 6) else (l.take many, t0, 0)) := by
      rw [HR.out, unpackOf, if_neg (by have := H0.out; have := H48.out; have := HN.out; omega), if_neg (by rw [← HN.out, ← H4.out]; have := HOK.out; simpa using this.symm)]
      rw [← HN.out, ← H8.out, ht0, ht1, hmany, ht2, ht3]
    have HR0 := Lib.hid hr0
    have HM := Lib.hid hmany
    clear hr0 hmany ht0 ht1 ht2 ht3 lt2 lt3
    go_wp2
    go_quiet (fail)
    have v7 : bits .or .i64 (wrap64 (wrap64 (t2.toNat : Int) * 256)) (wrap64 (t3.toNat : Int)) = (many : Int) := by
      rw [← o1]
      have lt2 := t2.toNat_lt
      have lt3 := t3.toNat_lt
      rw [IntWalk.wrap64_in (t2.toNat : Int) ⟨by omega, by omega⟩, IntWalk.wrap64_in (t3.toNat : Int) ⟨by omega, by omega⟩, IntWalk.wrap64_in ((t2.toNat : Int) * 256) ⟨by omega, by omega⟩]
    rw [v7]
    have hU3 := hU.drewN nq
    replace c0 : (w2.drewN nq).cell? ⟨b, off + m8, none⟩ = some (byteV t0) := c0
    replace c1 : (w2.drewN nq).cell? ⟨b, off + m8 + 1, none⟩ = some (byteV t1) := c1
    clear c2 c3 o1 v7 hU
    generalize w2.drewN nq = w3 at *
    by_cases h1 : t1 = 0
    · have q1 : ((t1.toNat : Int) != 0) = false := by rw [← nat_bne, h1]; rfl
      by_cases h2 : many = 0
      · have q2 : ((many : Int) == 0) = true := by rw [beq_iff_eq]; omega
        have hr : R = ([], 0, 5) := by rw [HR0.out, if_pos (.inr (.inl h2))]
        have HRR := Lib.hid hr
        clear hr h1 h2
        go_wp2
        go_ret3
        exact ⟨_, by rw [HRR.out]; rfl, fun _ => rfl, by rw [HRR.out]; exact OwnB.nil _ _, hU3⟩
      · have q2 : ((many : Int) == 0) = false := by rw [beq_eq_false_iff_ne]; omega
        by_cases h3 : partsOf many * 48 = n
        · have q3 : (((partsOf many : Nat) : Int) * 48 != (n : Int)) = false := by rw [bne_eq_false_iff_eq]; omega
          have hpr := parts_room many (by omega)
          have hm8 := H8.out
          have hmm : many ≤ m8 := by omega
          have s4 := sl_mid (b := b) (off := off) (n := n) (cap := cap) many m8 (lo := (many : Int)) (hi := (m8 : Int)) rfl rfl (by omega) (by omega) (by omega) (m := m8 - many) (c := cap - many) rfl rfl
          have s5 := sl_to (b := b) (off := off) (n := n) (cap := cap) many (hi := (many : Int)) rfl (by omega)
          have hz := HB.out.sub many m8 hmm (by omega)
          have hcl := HB.out.sub 0 many (by omega) (by omega)
          simp only [Nat.sub_zero, Nat.add_zero, List.drop_zero] at hcl
          have hzl : ((l.take m8).drop many).length ≤ 100000000000 := by simp; omega
          have hcll : (l.take many).length ≤ 100000000000 := by simp; omega
          rw [if_neg (by rintro (h | h | h); exact h h1; exact h2 h; exact h h3)] at HR0
          obtain ⟨z, hzz⟩ : ∃ z, z = anyByte ((l.take m8).drop many) := ⟨_, rfl⟩
          have HZ := Lib.hid hz
          have HCL := Lib.hid hcl
          have HZZ := Lib.hid hzz
          have hm48 : many ≤ 100000000 := by omega
          have hp : partsOf many ≤ 65536 := by unfold partsOf; split <;> omega
          have hnn : (n : Int) ≤ 1000000000 := by omega
          clear hz hcl hzz hm8 h1 h2 h3
          go_wp2_with (first
            | (go_at_call 16; refine (many_calls _ (by omega) (by omega) _).mono ?_; rintro e w4 ⟨rfl, rfl⟩; rw [Int.toNat_natCast])
            | (go_at_call 32; refine (contains_calls _ _ _ (HZ.out.no hU3) hzl).mono ?_; rintro e w5 ⟨rfl, rfl⟩; rw [← HZZ.out]; refine Hid.out ?_))
          refine on ?_
          cases z with
          | true =>
              have hr : R = ([], 0, 5) := by rw [HR0.out, if_pos HZZ.out.symm]
              have HRR := Lib.hid hr
              clear hr
              go_wp2
              go_ret3
              exact ⟨_, by rw [HRR.out]; rfl, fun _ => rfl, by rw [HRR.out]; exact OwnB.nil _ _, hU3⟩
          | false =>
              rw [if_neg (by rw [← HZZ.out]; decide)] at HR0
              by_cases hbig : 1000 < many
              · have hr : R = ([], 0, 6) := by rw [HR0.out, if_pos hbig]
                have HRR := Lib.hid hr
                clear hr
                go_wp2
                go_ret3
                exact ⟨_, by rw [HRR.out]; rfl, fun _ => rfl, by rw [HRR.out]; exact OwnB.nil _ _, hU3⟩
              · have hr : R = (l.take many, t0, 0) := by rw [HR0.out, if_neg hbig]
                have HRR := Lib.hid hr
                clear hr
                go_wp2
                go_region_with (go_at_call 34; refine (clone_calls _ _ _ (l.take many) _ (HCL.out.no hU3.drew) hcll).mono ?_; rintro e w6 ⟨v', rfl, hn6, ho6, hU6⟩; have hU7 := hU3.drew.trans hU6; have c0 := (((Upd.refl No w5).drew).trans hU6).cell c0 (fun h => h))
                all_goals
                  have hbase : w.heap.size ≤ w5.drew.heap.size := hU3.size
                  have HO := Lib.hid (ho6.mono hbase)
                  clear ho6 hn6
                  go_wp2
                  go_ret3
                  exact ⟨v', by rw [HRR.out]; rfl, fun h => absurd (by rw [HRR.out]) h, by rw [HRR.out]; exact HO.out, hU7⟩
        · have q3 : (((partsOf many : Nat) : Int) * 48 != (n : Int)) = true := by rw [bne_iff_ne]; omega
          have hr : R = ([], 0, 5) := by rw [HR0.out, if_pos (.inr (.inr h3))]
          have HRR := Lib.hid hr
          clear hr h1 h2 h3
          have hp : partsOf many ≤ 65536 := by unfold partsOf; split <;> omega
          go_wp2_with (go_at_call 16; refine (many_calls _ (by omega) (by omega) _).mono ?_; rintro e w4 ⟨rfl, rfl⟩; rw [Int.toNat_natCast])
          go_ret3
          exact ⟨_, by rw [HRR.out]; rfl, fun _ => rfl, by rw [HRR.out]; exact OwnB.nil _ _, hU3⟩
    · have q1 : ((t1.toNat : Int) != 0) = true := by
        rw [← nat_bne, bne_iff_ne]
        intro e
        exact h1 (UInt8.toNat_inj.1 (by simpa using e))
      have hr : R = ([], 0, 5) := by rw [HR0.out, if_pos (.inl h1)]
      have HRR := Lib.hid hr
      clear hr h1
      go_wp2
      go_ret3
      exact ⟨_, by rw [HRR.out]; rfl, fun _ => rfl, by rw [HRR.out]; exact OwnB.nil _ _, hU3⟩

/-- Unpack, at every slice. -/
theorem unpack_any (v : Value) (l : List UInt8) (w : World) (h : Bytes w v l) (hl : l.length ≤ 1000000000) : Calls Try.prog 20 #[v] w (Unpacked w (unpackOf l)) := by
  by_cases hs : l.length = 0 ∨ l.length % 48 ≠ 0
  · obtain ⟨a, c, rfl, _⟩ := h.shape
    have hr : unpackOf l = ([], 0, 5) := by rw [unpackOf, if_pos hs]
    rw [hr]
    exact (unpack_short a l.length c w hs hl).mono fun e w' ⟨he, hw⟩ => ⟨_, he, fun _ => rfl, OwnB.nil _ _, by rw [hw]; exact Upd.refl _ _⟩
  · rcases h with ⟨rfl, rfl⟩ | ⟨b, off, cap, rfl, h1, h2, h3, h4⟩
    · exact absurd (.inl rfl) hs
    · exact unpack_calls b off cap l w (.inr ⟨b, off, cap, rfl, h1, h2, h3, h4⟩) (fun e => hs (.inl e)) (Decidable.not_not.1 fun e => hs (.inr e)) hl
end Go.Proofs.Ytddohdfccagbbaa
