/- Package field: Get, Put, Text, PutText, Pad, Bare. -/
import Derived.Test.YtabngdpijbpgeaaGreatFieldA
set_option linter.unusedVariables false
set_option linter.unusedSimpArgs false
namespace Go.Proofs.YtabngdpijbpgeaaGreat
open Go Go.RowKit

def leNat : List UInt8 → Nat
  | [] => 0
  | b :: r => b.toNat + 256 * leNat r

theorem leNat_append (a b : List UInt8) : leNat (a ++ b) = leNat a + 256 ^ a.length * leNat b := by
  induction a with
  | nil => simp [leNat]
  | cons x r ih => simp only [List.cons_append, leNat, ih, List.length_cons, Nat.pow_succ, Nat.mul_add, Nat.add_assoc]; congr 2; rw [Nat.mul_comm (256 ^ r.length) 256, Nat.mul_assoc]
theorem leNat_lt (a : List UInt8) : leNat a < 256 ^ a.length := by
  induction a with
  | nil => simp [leNat]
  | cons x r ih =>
    have := x.toNat_lt
    simp only [leNat, List.length_cons, Nat.pow_succ]
    omega
theorem le_step (a b j : Nat) (ha : a < 256 ^ j) (hb : b < 256) (hj : j < 8) :
    bits BinOp.or IntKind.u64 (a : Int) (IntKind.u64.wrap (IntKind.u64.wrap (b : Int) * 2 ^ (8 * j))) = ((a + 256 ^ j * b : Nat) : Int) := by
  have h1 : (256 : Nat) ^ j = 2 ^ (8 * j) := by rw [Nat.pow_mul]
  have h3 : b * 256 ^ j < 18446744073709551616 := by
    have : (256 : Nat) ^ j ≤ 256 ^ 7 := Nat.pow_le_pow_right (by omega) (by omega)
    have h4 : b * 256 ^ j ≤ 255 * 256 ^ 7 := Nat.mul_le_mul (by omega) this
    omega
  have h5 : a < 18446744073709551616 := by
    have : (256 : Nat) ^ j ≤ 256 ^ 7 := Nat.pow_le_pow_right (by omega) (by omega)
    omega
  have e2 : ((b : Int) * 2 ^ (8 * j)) = ((b * 256 ^ j : Nat) : Int) := by rw [h1]; simp
  rw [IntWalk.u64_in (b : Int) ⟨by omega, by omega⟩, e2, IntWalk.u64_in _ ⟨by omega, by omega⟩, u64_or_nat _ _ h5 h3, Nat.or_comm,
    nat_join (8 * j) _ _ (by rw [h1]; exact Nat.mul_mod_left _ _) (by rw [← h1]; exact ha), Nat.add_comm, Nat.mul_comm b]

set_option maxRecDepth 100000 in
set_option maxHeartbeats 1000000 in
theorem fget_ok (s : ByteArray) (p k : Nat) (w : World) (hs : s.size ≤ big) (h1 : 1 ≤ k) (h8 : k ≤ 8) (h : p + k ≤ s.size) :
    Calls Tryz.prog 214 #[.string s, .int .i64 p, .int .i64 k] w fun e w' => e = .returned (.tuple #[.int .u64 (leNat (((bl s).drop p).take k)), .int .i64 0]) ∧ w = w' := by
  unfold big at hs
  have e1 : roomE s p k = 0 := by
    have e0 : placeE s p = 0 := if_pos ⟨by omega, by omega⟩
    unfold roomE; rw [e0, if_neg (by omega), if_neg (by omega)]
  have E1 := Lib.hid e1
  clear e1
  go_enter Tryz.func214, Tryz.ntmps214
  go_wp2_with (go_at_call 208; refine (room_any _ _ _ _ (by omega)).mono ?_; rw [E1.out]; rintro e w' ⟨rfl, rfl⟩)
  go_loop [9, 19] (fun n i => ∃ j : Nat, j ≤ k ∧ i = .int .i64 j ∧ n = .int .u64 (leNat (((bl s).drop p).take j))) (fun _ i => k - (intOf i).toNat)
  case atStart => exact ⟨0, Nat.zero_le _, rfl, rfl⟩
  case round =>
    obtain ⟨j, hj, rfl, rfl⟩ := hrel
    by_cases hlt : j < k
    · have hjs : p + j < (bl s).length := by rw [bl_length]; omega
      have hst : leNat (((bl s).drop p).take (j + 1)) = leNat (((bl s).drop p).take j) + 256 ^ j * s[p + j].toNat := by
        have e0 : ((bl s).drop p)[j]? = some s[p + j] := by rw [List.getElem?_drop, List.getElem?_eq_getElem hjs]; rfl
        rw [List.take_add_one, e0, leNat_append]
        have : (((bl s).drop p).take j).length = j := by simp; omega
        rw [this]; simp [leNat]
      have hlt2 : leNat (((bl s).drop p).take j) < 256 ^ j := by
        have := leNat_lt (((bl s).drop p).take j)
        have e2 : (((bl s).drop p).take j).length = j := by simp; omega
        rwa [e2] at this
      have HS := Lib.hid (hst.trans (by rfl) )
      have HL := Lib.hid hlt2
      clear hst hlt2
      go_wp2_with fail
      go_round
      case rel => exact ⟨j + 1, by omega, by go_num, by rw [HS.out, le_step _ _ _ HL.out s[p + j].toNat_lt (by omega)]⟩
      case measure => simp [intOf]; omega
    · go_wp2_with fail
      go_ret2
      obtain rfl : j = k := by omega
      exact ⟨rfl, rfl⟩

theorem fget_err (s : ByteArray) (p k : Int) (w : World) (hs : s.size ≤ big) (h : roomE s p k ≠ 0) :
    Calls Tryz.prog 214 #[.string s, .int .i64 p, .int .i64 k] w fun e w' => e = .returned (.tuple #[.int .u64 0, .int .i64 (roomE s p k)]) ∧ w = w' := by
  unfold big at hs
  have h1 : (roomE s p k != 0) = true := by simpa using h
  clear h
  generalize hr : roomE s p k = r at h1
  have HR := Lib.hid hr
  clear hr
  go_enter Tryz.func214, Tryz.ntmps214
  go_wp2_with (go_at_call 208; refine (room_any _ _ _ _ (by omega)).mono ?_; rw [HR.out]; rintro e w' ⟨rfl, rfl⟩)
  go_ret2
  exact ⟨rfl, rfl⟩

/-! ### Text -/
def lenAt (s : ByteArray) (p : Nat) : Nat := ((bl s).getD p 0).toNat
theorem ftext_ok (s : ByteArray) (p : Nat) (w : World) (hs : s.size ≤ big) (hp : p < s.size) (h : p + 1 + lenAt s p ≤ s.size) :
    Calls Tryz.prog 71 #[.string s, .int .i64 p] w fun e w' => e = .returned (.tuple #[.string (s.extract (p + 1) (p + 1 + lenAt s p)), .int .i64 (p + 1 + lenAt s p : Nat), .int .i64 0]) ∧ w = w' := by
  unfold big at hs
  have e1 : placeE s p = 0 := if_pos ⟨by omega, by omega⟩
  have E1 := Lib.hid e1
  have hl : lenAt s p = s[p].toNat := by
    unfold lenAt
    rw [List.getD, List.getElem?_eq_getElem (by rw [bl_length]; exact hp)]; rfl
  have HL := Lib.hid hl
  rw [hl] at h
  have hlt := s[p].toNat_lt
  have hb : ((p : Int) == (s.size : Int)) = false := by rw [beq_eq_false_iff_ne]; omega
  have hd : decide ((s.size : Int) - p - 1 < (s[p].toNat : Int)) = false := by rw [decide_eq_false_iff_not]; omega
  clear e1 hl
  go_enter Tryz.func71, Tryz.ntmps71
  go_wp2_with (go_at_call 113; refine (place_any _ _ _ (by omega)).mono ?_; rw [E1.out]; rintro e w' ⟨rfl, rfl⟩)
  go_ret3
  refine ⟨?_, rfl⟩
  rw [HL.out]
  rw [show ((p + 1 + s[p].toNat : Nat) : Int) = (p : Int) + 1 + s[p].toNat by omega]
  rfl

theorem ftext_int (s : ByteArray) (q : Int) (p : Nat) (w : World) (hq : q = p) (hs : s.size ≤ big) (hp : p < s.size) (h : p + 1 + lenAt s p ≤ s.size) :
    Calls Tryz.prog 71 #[.string s, .int .i64 q] w fun e w' => e = .returned (.tuple #[.string (s.extract (p + 1) (p + 1 + lenAt s p)), .int .i64 (p + 1 + lenAt s p : Nat), .int .i64 0]) ∧ w = w' := by
  subst hq; exact ftext_ok s p w hs hp h

/-- What Text says where there is none. -/
def textE (s : ByteArray) (p : Int) : Int := if 0 ≤ p ∧ p ≤ s.size then 3 else 1
theorem ftext_err (s : ByteArray) (p : Int) (w : World) (hs : s.size ≤ big) (h : ¬ (0 ≤ p ∧ p < s.size ∧ p + 1 + lenAt s p.toNat ≤ s.size)) :
    Calls Tryz.prog 71 #[.string s, .int .i64 p] w fun e w' => e = .returned (.tuple #[.string emptyS, .int .i64 0, .int .i64 (textE s p)]) ∧ w = w' := by
  unfold big at hs
  by_cases h1 : 0 ≤ p ∧ p ≤ s.size
  · have e1 : placeE s p = 0 := if_pos h1
    have e2 : textE s p = 3 := if_pos h1
    have E1 := Lib.hid e1
    have E2 := Lib.hid e2
    clear e1 e2
    obtain ⟨n, rfl⟩ := Int.eq_ofNat_of_zero_le h1.1
    rw [Int.toNat_natCast] at h
    obtain ⟨h2, h3⟩ := h1
    by_cases h4 : n = s.size
    · subst h4
      clear h
      go_enter Tryz.func71, Tryz.ntmps71
      go_wp2_with (go_at_call 113; refine (place_any _ _ _ (by omega)).mono ?_; rw [E1.out]; rintro e w' ⟨rfl, rfl⟩)
      go_ret3
      exact ⟨by rw [E2.out]; rfl, rfl⟩
    · have h5 : n < s.size := by omega
      have hl : lenAt s n = s[n].toNat := by
        unfold lenAt
        rw [List.getD, List.getElem?_eq_getElem (by rw [bl_length]; exact h5)]; rfl
      have hlt := s[n].toNat_lt
      have hb : ((n : Int) == (s.size : Int)) = false := by rw [beq_eq_false_iff_ne]; omega
      have hd : decide ((s.size : Int) - n - 1 < (s[n].toNat : Int)) = true := by rw [decide_eq_true_iff]; rw [hl] at h; omega
      clear h hl
      go_enter Tryz.func71, Tryz.ntmps71
      go_wp2_with (go_at_call 113; refine (place_any _ _ _ (by omega)).mono ?_; rw [E1.out]; rintro e w' ⟨rfl, rfl⟩)
      go_ret3
      exact ⟨by rw [E2.out]; rfl, rfl⟩
  · have e1 : placeE s p = 1 := if_neg h1
    have e2 : textE s p = 1 := if_neg h1
    have E1 := Lib.hid e1
    have E2 := Lib.hid e2
    clear e1 e2 h h1
    go_enter Tryz.func71, Tryz.ntmps71
    go_wp2_with (go_at_call 113; refine (place_any _ _ _ (by omega)).mono ?_; rw [E1.out]; rintro e w' ⟨rfl, rfl⟩)
    go_ret3
    exact ⟨by rw [E2.out]; rfl, rfl⟩

/-! ### PutText, Pad, Bare -/
theorem infoByte : (Tryz.prog.info? 5).map (fun i => (i.zero, i.size, i.bytes)) = some (some (.int .u8 0), 1, 1) := by kernel_rfl

def textBytes (t : ByteArray) : List UInt8 := UInt8.ofNat t.size :: bl t
theorem textBytes_length (t : ByteArray) : (textBytes t).length = t.size + 1 := by simp [textBytes, bl_length]

theorem putCells (t : ByteArray) (h : t.size ≤ 255) : [Value.int .u8 (t.size : Int)] ++ Lib.strCells t = byteCells (textBytes t) := by
  have : (UInt8.ofNat t.size).toNat = t.size := by rw [UInt8.toNat_ofNat']; omega
  simp only [byteCells, textBytes, List.map_cons, this, Lib.strCells, bl]; rfl
set_option maxRecDepth 100000 in
set_option maxHeartbeats 1000000 in
theorem fputtext_ok (s t : ByteArray) (p : Nat) (w : World) (hs : s.size ≤ big) (ht : t.size ≤ 255) (h : p + t.size + 1 ≤ s.size) :
    Calls Tryz.prog 162 #[.string s, .int .i64 p, .string t] w
      fun e w' => e = .returned (.tuple #[.string (bs (overL (bl s) p (textBytes t))), .int .i64 (p + t.size + 1 : Nat), .int .i64 0]) ∧ Below w.heap.size w w' := by
  unfold big at hs
  obtain ⟨i, hi, hz, hsz, hby⟩ := info_parts infoByte
  have HI := Lib.hid hi
  have HZ := Lib.hid hz
  have HS := Lib.hid hsz
  have HB := Lib.hid hby
  clear hi hz hsz hby
  have H0 := Lib.hid (World.ownsRow_lit (base := w.heap.size) (e := 5) (size := 1) w #[.int .u8 t.size] 1 (Nat.le_refl _) (by unfold maxLen; omega) rfl)
  have e1 : placeE s p = 0 := if_pos ⟨by omega, by omega⟩
  have E1 := Lib.hid e1
  clear e1
  go_enter Tryz.func162, Tryz.ntmps162
  go_wp2_with (first
    | (go_at_call 113; refine (place_any _ _ _ (by omega)).mono ?_; rw [E1.out]; rintro e w' ⟨rfl, rfl⟩)
    | (at_builtin; refine Lib.wpList_append_own_string _ rfl (.tmp 35) (.tmp 36) 66 9 rfl w.heap.size 5 i Tryz.underlying66 Tryz.underlying9 HI.out HZ.out HS.out HB.out _ 1 [.int .u8 t.size] rfl H0.out t rfl (by unfold maxLen; omega) (by omega) (by simp) ?_; intro v2 W2 hown2 hgr2 _; obtain ⟨a2, cap2, rfl, hrow2, _⟩ := ownsRow_fresh hown2; have hb2 : Below w.heap.size w W2 := ((Below.refl _ _).alloc (Nat.le_refl _) _).grown hgr2 (by simp) (fun k hk => (H0.out.lt k hk).1); have HR2 := Lib.hid hrow2; clear hrow2 hown2 hgr2)
    | (go_at_call 209; refine (fover_any _ _ _ _ _ (textBytes t) _ (by have := HR2.out; rwa [putCells t ht] at this) (by omega) (by omega) (by unfold big; omega)).mono ?_; rintro e W3 ⟨rfl, hb3⟩))
  go_ret3
  refine ⟨?_, hb2.trans (hb3.mono hb2.size)⟩
  rw [show ((p + t.size + 1 : Nat) : Int) = (p : Int) + t.size + 1 by omega]
  rfl

/-! ### Pad, Bare -/
theorem strOfZeros (n : Nat) : byteCells (List.replicate n 0) = List.replicate n (.int .u8 0) := by simp [byteCells]

set_option maxRecDepth 100000 in
set_option maxHeartbeats 1000000 in
theorem fpad_ok (s : ByteArray) (n : Nat) (w : World) (hs : s.size ≤ n) (hn : n ≤ 65536) :
    Calls Tryz.prog 160 #[.string s, .int .i64 n] w
      fun e w' => e = .returned (.tuple #[.string (bs (bl s ++ List.replicate (n - s.size) 0)), .int .i64 0]) ∧ Below w.heap.size w w' := by
  obtain ⟨i, hi, hz, hsz, hby⟩ := info_parts infoByte
  have hmk := fun (w : World) => run_make (P := Tryz.prog) w 66 5 i _ Tryz.underlying66 hi hz .i64 .i64 ((n : Int) - s.size) ((n : Int) - s.size) (by omega) (by omega) (by rw [hby]; omega) (by omega)
  have hcast : ((n : Int) - s.size).toNat = n - s.size := by omega
  have e1 : madeCells (Value.int .u8 0).cells ((n - s.size) * i.size) = (byteCells (List.replicate (n - s.size) 0)).toArray := by
    rw [hsz, Nat.mul_one, strOfZeros]
    apply Array.ext'
    exact toList_madeCells_one _ _
  simp only [e1, hcast] at hmk
  obtain ⟨Z, hZ⟩ : ∃ Z, Z = List.replicate (n - s.size) (0 : UInt8) := ⟨_, rfl⟩
  have hZl : Z.length = n - s.size := by rw [hZ]; simp
  rw [← hZ] at hmk ⊢
  have hcv := fun (w : World) (c : Nat) => run_bytes_string (P := Tryz.prog) (w.alloc (.cells (byteCells Z).toArray 5)) 66 9 5 w.heap.size 0 (n - s.size) c Z Tryz.underlying66 Tryz.underlying5 Tryz.underlying9 hZl
    (fun j v hv => by rw [Nat.zero_add, cell_of_heap (heap_alloc_new w _)]; simpa using hv)
  have HZ := Lib.hid hZ
  have HZL := Lib.hid hZl
  have hi1 : s.size + (bs Z).size ≤ 65536 := by rw [bs_size, hZl]; omega
  clear hZ hZl e1 hi hz hsz hby hcast
  go_enter Tryz.func160, Tryz.ntmps160
  go_wp2_with fail
  go_ret2
  refine ⟨?_, (Below.refl _ _).alloc (Nat.le_refl _) _⟩
  have e2 : s ++ bs Z = bs (bl s ++ Z) := by
    apply ByteArray.ext
    rw [ByteArray.data_append]
    apply Array.ext'
    simp [bs, bl]
  rw [← e2]
  rfl

def bareL (l : List UInt8) : List UInt8 := (l.reverse.dropWhile (· == 0)).reverse
theorem bareL_snoc_zero (l : List UInt8) : bareL (l ++ [0]) = bareL l := by simp [bareL]
theorem bareL_snoc (l : List UInt8) (b : UInt8) (h : b ≠ 0) : bareL (l ++ [b]) = l ++ [b] := by simp [bareL, h]

theorem fbare_any (s : ByteArray) (w : World) (hs : s.size ≤ big) :
    Calls Tryz.prog 176 #[.string s] w fun e w' => e = .returned (.string (bs (bareL (bl s)))) ∧ w = w' := by
  unfold big at hs
  go_enter Tryz.func176, Tryz.ntmps176
  go_wp2_with fail
  go_loop [3] (fun n => ∃ k : Nat, k ≤ s.size ∧ n = .int .i64 k ∧ Hid (bareL ((bl s).take k) = bareL (bl s))) (fun n => (intOf n).toNat)
  case atStart => exact ⟨s.size, Nat.le_refl _, rfl, by show _ = _; rw [List.take_of_length_le (by rw [bl_length]; exact Nat.le_refl _)]⟩
  case round =>
    obtain ⟨k, hk, rfl, hinv⟩ := hrel
    cases k with
    | zero =>
      go_wp2_with fail
      go_ret
      refine ⟨?_, rfl⟩
      rw [← hinv.out]
      rfl
    | succ k =>
      have hks : k < (bl s).length := by rw [bl_length]; omega
      have e0 : (bl s).take (k + 1) = (bl s).take k ++ [s[k]] := by
        rw [List.take_add_one, List.getElem?_eq_getElem hks]; rfl
      by_cases hb : s[k] = 0
      · have h1 : ((s[k].toNat : Int) == 0) = true := by rw [hb]; rfl
        have HI := Lib.hid (show bareL ((bl s).take k) = bareL (bl s) by rw [← hinv.out, e0, hb, bareL_snoc_zero])
        clear e0 hinv hb
        go_wp2_with fail
        go_round
        case rel => exact ⟨k, by omega, rfl, HI.out⟩
        case measure => simp [intOf]
      · have h1 : ((s[k].toNat : Int) == 0) = false := by
          rw [beq_eq_false_iff_ne]; intro h; apply hb
          apply UInt8.toNat_inj.1
          simpa using h
        have HI := Lib.hid (show (bl s).take (k + 1) = bareL (bl s) by rw [← hinv.out, e0, bareL_snoc _ _ hb])
        clear e0 hinv hb
        have HE := Lib.hid (show s.extract 0 (k + 1) = bs (bareL (bl s)) by
          rw [← HI.out]
          apply ByteArray.ext
          apply Array.ext'
          simp [bs, bl])
        go_wp2_with fail
        go_ret
        exact ⟨by rw [← HE.out]; rfl, rfl⟩

/-! ### Put -/
def leBytes : Nat → Nat → List UInt8
  | 0, _ => []
  | k + 1, n => UInt8.ofNat (n % 256) :: leBytes k (n / 256)
theorem leBytes_length : ∀ k n, (leBytes k n).length = k
  | 0, _ => rfl
  | k + 1, n => by simp [leBytes, leBytes_length k]
theorem leBytes_get : ∀ (k n j : Nat), j < k → (leBytes k n)[j]? = some (UInt8.ofNat (n / 256 ^ j % 256))
  | 0, _, _, h => by omega
  | k + 1, n, 0, _ => by simp [leBytes]
  | k + 1, n, j + 1, h => by
    simp only [leBytes, List.getElem?_cons_succ, leBytes_get k (n / 256) j (by omega), Nat.pow_succ, Nat.div_div_eq_div_mul]
    rw [Nat.mul_comm]
def preCells (k n j : Nat) : List Value := byteCells ((leBytes k n).take j) ++ List.replicate (k - j) (.int .u8 0)
theorem preCells_length (k n j : Nat) (h : j ≤ k) : (preCells k n j).length = k := by
  simp [preCells, byteCells_length, leBytes_length]; omega
theorem preCells_set (k n j : Nat) (h : j < k) : (preCells k n j).set j (.int .u8 (n / 256 ^ j % 256 : Nat)) = preCells k n (j + 1) := by
  have hl : (byteCells ((leBytes k n).take j)).length = j := by simp [byteCells_length, leBytes_length]; omega
  have hr : k - j = (k - (j + 1)) + 1 := by omega
  have e : (UInt8.ofNat (n / 256 ^ j % 256)).toNat = n / 256 ^ j % 256 := by rw [UInt8.toNat_ofNat']; omega
  unfold preCells
  rw [List.set_append_right _ _ (by omega), hl, Nat.sub_self, hr, List.replicate_succ, List.set_cons_zero, List.take_add_one, leBytes_get k n j h]
  simp [byteCells, e]
theorem preCells_get (k n j : Nat) (h : j < k) : (preCells k n j)[j]? = some (.int .u8 0) := by
  have hl : (byteCells ((leBytes k n).take j)).length = j := by simp [byteCells_length, leBytes_length]; omega
  unfold preCells
  rw [List.getElem?_append_right (by omega), hl, Nat.sub_self, List.getElem?_replicate, if_pos (by omega)]

set_option maxRecDepth 100000 in
set_option maxHeartbeats 1000000 in
theorem fput_ok (s : ByteArray) (p k n : Nat) (w : World) (hs : s.size ≤ big) (h1 : 1 ≤ k) (h8 : k < 8) (h : p + k ≤ s.size) (hn : n < 256 ^ k) :
    Calls Tryz.prog 161 #[.string s, .int .i64 p, .int .i64 k, .int .u64 n] w
      fun e w' => e = .returned (.tuple #[.string (bs (overL (bl s) p (leBytes k n))), .int .i64 0]) ∧ Below w.heap.size w w' := by
  have hbig : (256 : Nat) ^ k ≤ 256 ^ 7 := Nat.pow_le_pow_right (by omega) (by omega)
  have hn64 : n < 72057594037927936 := by omega
  clear hbig
  unfold big at hs
  obtain ⟨i, hi, hz, hsz, hby⟩ := info_parts infoByte
  have hmk := fun (w : World) => run_make (P := Tryz.prog) w 66 5 i _ Tryz.underlying66 hi hz .i64 .i64 (k : Int) (k : Int) (by omega) (by omega) (by rw [hby]; omega) (by omega)
  have e1 : madeCells (Value.int .u8 0).cells (k * i.size) = (preCells k n 0).toArray := by
    rw [hsz, Nat.mul_one]
    apply Array.ext'
    rw [show (Value.int IntKind.u8 0).cells = #[Value.int .u8 0] from rfl, toList_madeCells_one]
    simp [preCells, byteCells]
  simp only [Int.toNat_natCast, e1] at hmk
  have e2 : roomE s p k = 0 := by
    have e0 : placeE s p = 0 := if_pos ⟨by omega, by omega⟩
    unfold roomE; rw [e0, if_neg (by omega), if_neg (by omega)]
  have E2 := Lib.hid e2
  have hsh : ((n : Int) / 2 ^ (8 * k)) = 0 := by
    have h1 : (256 : Nat) ^ k = 2 ^ (8 * k) := by rw [Nat.pow_mul]
    have : n / 2 ^ (8 * k) = 0 := Nat.div_eq_of_lt (by rw [← h1]; exact hn)
    have e : ((n : Int) / 2 ^ (8 * k)) = ((n / 2 ^ (8 * k) : Nat) : Int) := by simp
    rw [e, this]; rfl
  have HN := Lib.hid hn
  clear e1 e2 hi hz hsz hby hn
  go_enter Tryz.func161, Tryz.ntmps161
  go_wp2_with (first
    | (go_at_call 208; refine (room_any _ _ _ _ (by omega)).mono ?_; rw [E2.out]; rintro e w' ⟨rfl, rfl⟩))
  go_loopw [32] (fun i wr => ∃ j : Nat, j ≤ k ∧ i = .int .i64 j ∧ Hid (wr.heap[w.heap.size]? = some (.cells (preCells k n j).toArray 5 (0, 0))) ∧ Below w.heap.size w wr)
    (fun i _ => k - (intOf i).toNat)
  case atStart => exact ⟨0, Nat.zero_le _, rfl, heap_alloc_new w _, (Below.refl _ _).alloc (Nat.le_refl _) _⟩
  case round =>
    obtain ⟨j, hj, rfl, hh, hbw⟩ := hrel
    by_cases hlt : j < k
    · have hc : wr.cell? ⟨w.heap.size, j, none⟩ = some (.int .u8 0) := (cell_of_heap hh.out).trans (by rw [List.getElem?_toArray]; exact preCells_get k n j hlt)
      have hf : wr.frozen? ⟨w.heap.size, j, none⟩ = false := frozen_of_heap hh.out
      have e3 : IntKind.u8.wrap ((n : Int) / 2 ^ (8 * j)) = ((n / 256 ^ j % 256 : Nat) : Int) := by
        rw [IntKind.wrap_u8]
        have h1 : (256 : Nat) ^ j = 2 ^ (8 * j) := by rw [Nat.pow_mul]
        rw [h1]; simp
      have E3 := Lib.hid e3
      clear e3
      go_wp2_with fail
      go_roundw
      case rel =>
        refine ⟨j + 1, by omega, by go_num, ?_, hbw.setCell (Nat.le_refl _) _⟩
        show _ = _
        have e4 : ((n : Int) / 2 ^ (8 * j) % 256) = ((n / 256 ^ j % 256 : Nat) : Int) := by
          have h1 : (256 : Nat) ^ j = 2 ^ (8 * j) := by rw [Nat.pow_mul]
          rw [h1]; simp
        rw [e4, heap_setCell hh.out, ← preCells_set k n j hlt]
        simp
      case measure => simp [intOf]; omega
    · obtain rfl : j = k := by omega
      have hrow : Row wr 5 1 (some ⟨w.heap.size, 0, none⟩) j j (byteCells (leBytes j n)) := by
        refine ⟨by rw [byteCells_length, leBytes_length, Nat.mul_one], Nat.le_refl _, by unfold maxLen; omega, by simp, by simp, .inr ⟨_, 0, _, _, rfl, hh.out, fun i v hv => ?_⟩⟩
        rw [Nat.zero_add, List.getElem?_toArray]
        unfold preCells
        rw [Nat.sub_self, List.replicate_zero, List.append_nil, List.take_of_length_le (by rw [leBytes_length]; exact Nat.le_refl _)]
        exact hv
      have HR := Lib.hid hrow
      clear hrow
      go_wp2_with (first
        | (go_at_call 209; refine (fover_any _ _ _ _ _ (leBytes j n) _ HR.out (by omega) (by omega) (by unfold big; omega)).mono ?_; rintro e W3 ⟨rfl, hb3⟩))
      go_ret2
      exact ⟨rfl, hbw.trans (hb3.mono hbw.size)⟩
end Go.Proofs.YtabngdpijbpgeaaGreat
