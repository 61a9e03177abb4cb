/- Package bits: one page's bit, has, Is. -/
import Derived.Test.YtabngdpijbpgeaaGreatFieldB
set_option linter.unusedVariables false
set_option linter.unusedSimpArgs false
namespace Go.Proofs.YtabngdpijbpgeaaGreat
open Go Go.RowKit

/-- Below, but for some blocks. -/
structure Mods (S : Nat → Prop) (w w' : World) : Prop where
  os : w'.os = w.os
  tape : w'.tape = w.tape
  output : w'.output = w.output
  size : w.heap.size ≤ w'.heap.size
  block : ∀ k, k < w.heap.size → ¬ S k → w'.heap[k]? = w.heap[k]?
theorem Mods.refl (S : Nat → Prop) (w : World) : Mods S w w := ⟨rfl, rfl, rfl, Nat.le_refl _, fun _ _ _ => rfl⟩
theorem Mods.of_below {S : Nat → Prop} {w w' : World} (h : Below w.heap.size w w') : Mods S w w' := ⟨h.os, h.tape, h.output, h.size, fun k hk _ => h.block k hk⟩
theorem Mods.trans {S : Nat → Prop} {a b c : World} (h : Mods S a b) (k : Mods S b c) : Mods S a c :=
  ⟨k.os.trans h.os, k.tape.trans h.tape, k.output.trans h.output, Nat.le_trans h.size k.size, fun i hi hs => (k.block i (Nat.lt_of_lt_of_le hi h.size) hs).trans (h.block i hi hs)⟩
theorem Mods.mono {S S' : Nat → Prop} {a b : World} (h : Mods S a b) (hs : ∀ k, k < a.heap.size → S k → S' k) : Mods S' a b :=
  ⟨h.os, h.tape, h.output, h.size, fun k hk hn => h.block k hk (fun e => hn (hs k hk e))⟩
/-- Blocks that the call has made do not count. -/
theorem Mods.trans_new {S S' : Nat → Prop} {a b c : World} (h : Mods S a b) (k : Mods S' b c) (hs : ∀ i, i < a.heap.size → S' i → S i) : Mods S a c :=
  ⟨k.os.trans h.os, k.tape.trans h.tape, k.output.trans h.output, Nat.le_trans h.size k.size, fun i hi hn => (k.block i (Nat.lt_of_lt_of_le hi h.size) (fun e => hn (hs i hi e))).trans (h.block i hi hn)⟩
theorem Mods.set {S : Nat → Prop} {a b : World} (h : Mods S a b) {p : Addr} (hp : a.heap.size ≤ p.block ∨ S p.block) (u : Value) : Mods S a (b.setCell p u) :=
  ⟨h.os, h.tape, h.output, by rw [size_setCell]; exact h.size, fun k hk hn => by
    have hne : k ≠ p.block := by
      rintro rfl
      rcases hp with hp | hp
      · omega
      · exact hn hp
    rw [Below.heap_setCell _ _ _ _ hne]; exact h.block k hk hn⟩
theorem Mods.alloc {S : Nat → Prop} {a b : World} (h : Mods S a b) (o : Obj) : Mods S a (b.alloc o) :=
  h.trans (.of_below ((Below.refl _ _).alloc (Nat.le_refl _) _))
theorem Mods.heap {S : Nat → Prop} {a b : World} (h : Mods S a b) {k : Nat} {o : Obj} (hk : a.heap[k]? = some o) (hn : ¬ S k) : b.heap[k]? = some o :=
  (h.block k (heap_lt hk) hn).trans hk

/-! ### bits -/
def tk (l : List UInt8) (i : Nat) : Bool := (l.getD (i / 8) 0).toNat.testBit (i % 8)

/-- Bits in memory: the struct's block b, the bytes' block bb. -/
structure BitsAt (w : World) (b bb : Nat) (l : List UInt8) (n : Nat) : Prop where
  h1 : w.heap[b]? = some (.cells #[.slice (some ⟨bb, 0, none⟩) l.length l.length, .int .i64 n] 192 (0, 0))
  h2 : w.heap[bb]? = some (.cells (byteCells l).toArray 5 (0, 0))
  len : l.length = (n + 7) / 8
  lo : 1 ≤ n
  hi : n ≤ 1024

theorem BitsAt.drewN {w : World} {b bb n : Nat} {l : List UInt8} (h : BitsAt w b bb l n) (m : Nat) : BitsAt (w.drewN m) b bb l n := ⟨h.h1, h.h2, h.len, h.lo, h.hi⟩

theorem has_any (b bb : Nat) (l : List UInt8) (n : Nat) (i : Int) (w : World) (h : BitsAt w b bb l n) :
    Calls Tryz.prog 179 #[.pointer (some ⟨b, 0, none⟩), .int .i64 i] w fun e w' => e = .returned (.bool (decide (0 ≤ i) && decide (i < n))) ∧ w = w' := by
  have hc := cell_of_heap (o := 1) h.h1
  by_cases h0 : 0 ≤ i
  · have hd : decide (0 ≤ i) = true := by simpa using h0
    go_enter Tryz.func179, Tryz.ntmps179
    go_wp2_with fail
    go_ret
    exact ⟨by rw [hd]; rfl, rfl⟩
  · have hd : decide (0 ≤ i) = false := by simpa using h0
    go_enter Tryz.func179, Tryz.ntmps179
    go_wp2_with fail
    go_ret
    exact ⟨by simp [h0], rfl⟩

theorem bit_any (i : Nat) (w : World) (hi : i ≤ 1048576) :
    Calls Tryz.prog 193 #[.int .i64 i] w fun e w' => e = .returned (.int .u8 (2 ^ (i % 8) : Nat)) ∧ w = w' := by
  have h8 : i % 8 < 8 := Nat.mod_lt _ (by omega)
  have hix : ∀ (w : World), (Instr.index 278 (.agg #[.int .u8 1, .int .u8 2, .int .u8 4, .int .u8 8, .int .u8 16, .int .u8 32, .int .u8 64, .int .u8 128]) (.int .i64 ((i : Int) % 8))).run Tryz.prog w = .ok (.int .u8 (2 ^ (i % 8) : Nat)) w := by
    intro w
    have e : ((i : Int) % 8) = ((i % 8 : Nat) : Int) := by simp
    rw [e]
    generalize i % 8 = j at h8
    obtain rfl | rfl | rfl | rfl | rfl | rfl | rfl | rfl : j = 0 ∨ j = 1 ∨ j = 2 ∨ j = 3 ∨ j = 4 ∨ j = 5 ∨ j = 6 ∨ j = 7 := by omega
    all_goals (show _ = _; kernel_rfl)
  go_enter Tryz.func193, Tryz.ntmps193
  go_wp2_with fail
  go_ret
  exact ⟨rfl, rfl⟩

theorem and_pow (a j : Nat) : a &&& 2 ^ j = if a.testBit j then 2 ^ j else 0 := by
  apply Nat.eq_of_testBit_eq
  intro i
  rw [Nat.testBit_and, Nat.testBit_two_pow]
  by_cases h : j = i
  · subst h
    cases ha : a.testBit j <;> simp [Nat.testBit_two_pow_self]
  · cases ha : a.testBit j <;> simp [h, Nat.testBit_two_pow]
theorem bits_and_u8 (a j : Nat) (ha : a < 256) (hj : j < 8) : (bits BinOp.and IntKind.u8 (a : Int) ((2 ^ j : Nat) : Int) != 0) = a.testBit j := by
  have hp : (2 : Nat) ^ j ≤ 2 ^ 7 := Nat.pow_le_pow_right (by omega) (by omega)
  have hq := Nat.two_pow_pos j
  rw [u8_and_nat a (2 ^ j) ha (by omega), and_pow]
  cases h : a.testBit j
  · simp
  · simp only [if_true]
    rw [bne_iff_ne]; omega

set_option maxHeartbeats 1000000 in
theorem is_any (b bb : Nat) (l : List UInt8) (n : Nat) (i : Int) (w : World) (h : BitsAt w b bb l n) :
    Calls Tryz.prog 137 #[.pointer (some ⟨b, 0, none⟩), .int .i64 i] w fun e w' => e = .returned (.bool (decide (0 ≤ i) && decide (i < n) && tk l i.toNat)) ∧ ∃ m, w' = w.drewN m := by
  have hn := h.hi
  by_cases hi : 0 ≤ i ∧ i < n
  · obtain ⟨k, rfl⟩ := Int.eq_ofNat_of_zero_le hi.1
    have hk : k < n := by omega
    have hd : (decide ((0 : Int) ≤ k) && decide ((k : Int) < n)) = true := by simp; omega
    have hlen := h.len
    have hk8 : k / 8 < l.length := by omega
    have hc0 := cell_of_heap (o := 0) h.h1
    have hcb : w.cell? ⟨bb, k / 8, none⟩ = some (.int .u8 (l[k / 8]).toNat) := by
      rw [cell_of_heap h.h2]
      simp [byteCells, hk8]
    have hkl : k / 8 < l.length := hk8
    have e1 : tk l (k : Int).toNat = (bits BinOp.and IntKind.u8 ((l[k / 8]).toNat : Int) ((2 ^ (k % 8) : Nat) : Int) != 0) := by
      rw [bits_and_u8 _ _ (l[k / 8]).toNat_lt (Nat.mod_lt _ (by omega))]
      simp [tk, hk8]
    have HQ : ∀ m, Calls Tryz.prog 179 #[.pointer (some ⟨b, 0, none⟩), .int .i64 k] (w.drewN m) fun e w' => e = .returned (.bool true) ∧ w' = w.drewN m := fun m =>
      (has_any b bb l n k (w.drewN m) (h.drewN m)).mono fun e w' ⟨he, hw⟩ => ⟨by rw [he, hd], hw.symm⟩
    have HQ2 : ∀ m, Calls Tryz.prog 193 #[.int .i64 k] (w.drewN m) fun e w' => e = .returned (.int .u8 (2 ^ (k % 8) : Nat)) ∧ w' = w.drewN m := fun m =>
      (bit_any k (w.drewN m) (by omega)).mono fun e w' ⟨he, hw⟩ => ⟨he, hw.symm⟩
    have HD := Lib.hid hd
    have E1 := Lib.hid e1
    clear hd e1 hi h hlen
    go_enter Tryz.func137, Tryz.ntmps137
    go_wp2_with fail
    go_quiet ((first
      | (go_at_call 179; exact Calls.quiet_of_same (HQ _))
      | (go_at_call 193; exact Calls.quiet_of_same (HQ2 _))))
    go_wp2
    go_ret
    refine ⟨?_, nq, rfl⟩
    rw [HD.out, E1.out]
    rfl
  · have hd : (decide (0 ≤ i) && decide (i < (n : Int))) = false := by
      rw [Bool.and_eq_false_iff]; simp; omega
    have HQ : ∀ m, Calls Tryz.prog 179 #[.pointer (some ⟨b, 0, none⟩), .int .i64 i] (w.drewN m) fun e w' => e = .returned (.bool false) ∧ w' = w.drewN m := fun m =>
      (has_any b bb l n i (w.drewN m) (h.drewN m)).mono fun e w' ⟨he, hw⟩ => ⟨by rw [he, hd], hw.symm⟩
    have HD := Lib.hid hd
    clear hd hi h
    go_enter Tryz.func137, Tryz.ntmps137
    go_wp2_with fail
    go_quiet ((first
      | (go_at_call 179; exact Calls.quiet_of_same (HQ _))))
    go_wp2
    go_ret
    refine ⟨?_, nq, rfl⟩
    rw [HD.out]
    rfl
end Go.Proofs.YtabngdpijbpgeaaGreat
