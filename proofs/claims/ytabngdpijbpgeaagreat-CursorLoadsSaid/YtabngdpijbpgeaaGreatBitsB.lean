/- Package bits: TakeAt, Give. -/
import Derived.Test.YtabngdpijbpgeaaGreatBitsA
import Derived.StillTailTactics
set_option linter.unusedVariables false
set_option linter.unusedSimpArgs false
namespace Go.Proofs.YtabngdpijbpgeaaGreat
open Go Go.RowKit

def setBit (l : List UInt8) (i : Nat) : List UInt8 := l.set (i / 8) (l.getD (i / 8) 0 ||| UInt8.ofNat (2 ^ (i % 8)))
def clearBit (l : List UInt8) (i : Nat) : List UInt8 := l.set (i / 8) (l.getD (i / 8) 0 &&& UInt8.ofNat (255 - 2 ^ (i % 8)))
theorem clearBit_length (l : List UInt8) (i : Nat) : (clearBit l i).length = l.length := by simp [clearBit]
theorem setBit_length (l : List UInt8) (i : Nat) : (setBit l i).length = l.length := by simp [setBit]

theorem pow_lt8 (i : Nat) : 2 ^ (i % 8) ≤ 128 := by
  have h : i % 8 < 8 := Nat.mod_lt _ (by omega)
  have : (2 : Nat) ^ (i % 8) ≤ 2 ^ 7 := Nat.pow_le_pow_right (by omega) (by omega)
  omega
theorem tk_setBit (l : List UInt8) (i j : Nat) (hi : i / 8 < l.length) : tk (setBit l i) j = (decide (j = i) || tk l j) := by
  unfold tk setBit
  have hp := pow_lt8 i
  have hq := Nat.two_pow_pos (i % 8)
  have e : (UInt8.ofNat (2 ^ (i % 8))).toNat = 2 ^ (i % 8) := by rw [UInt8.toNat_ofNat']; omega
  by_cases h : j / 8 = i / 8
  · rw [h]
    simp only [List.getD, List.getElem?_set_self hi, Option.getD_some, UInt8.toNat_or, e, Nat.testBit_or, Nat.testBit_two_pow]
    by_cases h2 : j = i
    · subst h2; simp
    · have : i % 8 ≠ j % 8 := by omega
      simp [h2, this]
  · have : j ≠ i := by rintro rfl; exact h rfl
    simp only [List.getD, List.getElem?_set_ne (Ne.symm h), this, decide_false, Bool.false_or]

theorem BitsAt.ne {w : World} {b bb n : Nat} {l : List UInt8} (h : BitsAt w b bb l n) : b ≠ bb := by
  rintro rfl
  have := h.h1.symm.trans h.h2
  injection this with this; injection this with _ e; exact absurd e (by decide)
theorem BitsAt.store {W : World} {b bb n k : Nat} {l : List UInt8} (h : BitsAt W b bb l n) (hk : k < l.length) (x : UInt8) : BitsAt (W.drew.setCell ⟨bb, k, none⟩ (.int .u8 x.toNat)) b bb (l.set k x) n := by
  refine ⟨?_, ?_, by rw [List.length_set]; exact h.len, h.lo, h.hi⟩
  · rw [heap_setCell_ne h.ne, List.length_set]; exact h.h1
  · rw [heap_setCell (w := W.drew) h.h2]
    congr 2
    apply Array.ext'
    simp [byteCells, List.map_set]
def takeAtE (l : List UInt8) (n : Nat) (i : Int) : Int := if 0 ≤ i ∧ i < n then (if tk l i.toNat then 8 else 0) else 1

set_option maxRecDepth 100000 in
set_option maxHeartbeats 1000000 in
theorem takeat_ok (b bb : Nat) (l : List UInt8) (n i : Nat) (w : World) (h : BitsAt w b bb l n) (hi : i < n) (ht : tk l i = false) :
    Calls Tryz.prog 180 #[.pointer (some ⟨b, 0, none⟩), .int .i64 i] w fun e w' => e = .returned (.int .i64 0) ∧ BitsAt w' b bb (setBit l i) n ∧ Mods (· = bb) w w' := by
  have hn := h.hi
  have hlen := h.len
  have hk8 : i / 8 < l.length := by omega
  have hlt : l.length ≤ 200 := by omega
  clear hlen
  have hd : (decide ((0 : Int) ≤ i) && decide ((i : Int) < n)) = true := by simp; omega
  have hh := has_any b bb l n i w h
  have hs := is_any b bb l n i w h
  rw [hd] at hh hs
  rw [Bool.true_and, Int.toNat_natCast, ht] at hs
  have HH := Lib.hid hh
  have HS := Lib.hid hs
  have HB := Lib.hid h
  clear hh hs hd h
  go_enter Tryz.func180, Tryz.ntmps180
  go_wp2_with (first
    | (go_at_call 179; refine HH.out.mono ?_; rintro e w' ⟨rfl, rfl⟩)
    | (go_at_call 137; refine HS.out.mono ?_; rintro e w' ⟨rfl, m, rfl⟩))
  generalize hW : w.drewN m = W
  have hb : BitsAt W b bb l n := by rw [← hW]; exact HB.out.drewN m
  have hm0 : Mods (· = bb) w W := by rw [← hW]; exact ⟨rfl, rfl, rfl, Nat.le_refl _, fun _ _ _ => rfl⟩
  have hc0 := cell_of_heap (o := 0) hb.h1
  have hcb : W.cell? ⟨bb, i / 8, none⟩ = some (.int .u8 (l[i / 8]).toNat) := by
    rw [cell_of_heap hb.h2]; simp [byteCells, hk8]
  have hf := frozen_of_heap (o := i / 8) hb.h2
  have HB2 := Lib.hid hb
  clear hW hb HS HH
  have hbit : ∀ W : World, Calls Tryz.prog 193 #[.int .i64 i] W fun e w' => e = .returned (.int .u8 (2 ^ (i % 8) : Nat)) ∧ w' = W :=
    fun W => (bit_any i W (by omega)).mono fun e w' ⟨he, hw⟩ => ⟨he, hw.symm⟩
  have hw1 : IntKind.i64.wrap ((i : Int) / 8) = (i : Int) / 8 := IntWalk.i64_in _ (by omega)
  have hw2 : 0 ≤ (i : Int) / 8 := by omega
  have hw3 : (i : Int) / 8 < (l.length : Int) := by omega
  have hw4 : ((i : Int) / 8).toNat = i / 8 := by omega
  go_still_tail 12, (by kernel_rfl)
  still_call (hbit _)
  repeat still_step
  refine wpStill_nil ?_
  change wpList _ _ _ _ _ W.drew
  clear hw1 hw2 hw3 hw4
  go_wp2
  go_ret
  have hv : (bits BinOp.or IntKind.u8 ((l[i / 8]).toNat : Int) (2 ^ (i % 8))) = ((l.getD (i / 8) 0 ||| UInt8.ofNat (2 ^ (i % 8))).toNat : Int) := by
    have hp := pow_lt8 i
    have hq := Nat.two_pow_pos (i % 8)
    have e : (UInt8.ofNat (2 ^ (i % 8))).toNat = 2 ^ (i % 8) := by rw [UInt8.toNat_ofNat']; omega
    have := u8_or_nat (l[i / 8]).toNat (2 ^ (i % 8)) (l[i / 8]).toNat_lt (by omega)
    rw [UInt8.toNat_or, e, List.getD, List.getElem?_eq_getElem hk8]
    simpa using this
  rw [hv]
  exact ⟨rfl, HB2.out.store hk8 _, (hm0.trans (Mods.of_below ((Below.refl _ _).drew))).set (.inr rfl) _⟩

theorem comp_testBit (k j : Nat) (hk : k < 8) (hj : j < 8) : (255 - 2 ^ k).testBit j = decide (j ≠ k) := by
  obtain rfl | rfl | rfl | rfl | rfl | rfl | rfl | rfl : k = 0 ∨ k = 1 ∨ k = 2 ∨ k = 3 ∨ k = 4 ∨ k = 5 ∨ k = 6 ∨ k = 7 := by omega
  all_goals
    obtain rfl | rfl | rfl | rfl | rfl | rfl | rfl | rfl : j = 0 ∨ j = 1 ∨ j = 2 ∨ j = 3 ∨ j = 4 ∨ j = 5 ∨ j = 6 ∨ j = 7 := by omega
    all_goals decide
theorem tk_clearBit (l : List UInt8) (i j : Nat) (hi : i / 8 < l.length) : tk (clearBit l i) j = (decide (j ≠ i) && tk l j) := by
  unfold tk clearBit
  have hp := pow_lt8 i
  have hq := Nat.two_pow_pos (i % 8)
  have e : (UInt8.ofNat (255 - 2 ^ (i % 8))).toNat = 255 - 2 ^ (i % 8) := by rw [UInt8.toNat_ofNat']; omega
  by_cases h : j / 8 = i / 8
  · rw [h]
    simp only [List.getD, List.getElem?_set_self hi, Option.getD_some, UInt8.toNat_and, e, Nat.testBit_and]
    rw [comp_testBit _ _ (Nat.mod_lt _ (by omega)) (Nat.mod_lt _ (by omega)), Bool.and_comm]
    congr 1
    have : (j % 8 ≠ i % 8) ↔ (j ≠ i) := by omega
    simp only [this]
  · have : j ≠ i := by rintro rfl; exact h rfl
    simp only [List.getD, List.getElem?_set_ne (Ne.symm h), this, ne_eq, not_false_eq_true, decide_true, Bool.true_and]

set_option maxRecDepth 100000 in
set_option maxHeartbeats 1000000 in
theorem give_ok (b bb : Nat) (l : List UInt8) (n i : Nat) (w : World) (h : BitsAt w b bb l n) (hi : i < n) (ht : tk l i = true) :
    Calls Tryz.prog 174 #[.pointer (some ⟨b, 0, none⟩), .int .i64 i] w fun e w' => e = .returned (.int .i64 0) ∧ BitsAt w' b bb (clearBit l i) n ∧ Mods (· = bb) w w' := by
  have hn := h.hi
  have hlen := h.len
  have hk8 : i / 8 < l.length := by omega
  have hlt : l.length ≤ 200 := by omega
  clear hlen
  have hd : (decide ((0 : Int) ≤ i) && decide ((i : Int) < n)) = true := by simp; omega
  have hh := has_any b bb l n i w h
  have hs := is_any b bb l n i w h
  rw [hd] at hh hs
  rw [Bool.true_and, Int.toNat_natCast, ht] at hs
  have HH := Lib.hid hh
  have HS := Lib.hid hs
  have HB := Lib.hid h
  clear hh hs hd h
  go_enter Tryz.func174, Tryz.ntmps174
  go_wp2_with (first
    | (go_at_call 179; refine HH.out.mono ?_; rintro e w' ⟨rfl, rfl⟩)
    | (go_at_call 137; refine HS.out.mono ?_; rintro e w' ⟨rfl, m, rfl⟩))
  generalize hW : w.drewN m = W
  have hb : BitsAt W b bb l n := by rw [← hW]; exact HB.out.drewN m
  have hm0 : Mods (· = bb) w W := by rw [← hW]; exact ⟨rfl, rfl, rfl, Nat.le_refl _, fun _ _ _ => rfl⟩
  have hc0 := cell_of_heap (o := 0) hb.h1
  have hcb : W.cell? ⟨bb, i / 8, none⟩ = some (.int .u8 (l[i / 8]).toNat) := by
    rw [cell_of_heap hb.h2]; simp [byteCells, hk8]
  have hf := frozen_of_heap (o := i / 8) hb.h2
  have HB2 := Lib.hid hb
  clear hW hb HS HH
  have hbit : ∀ W : World, Calls Tryz.prog 193 #[.int .i64 i] W fun e w' => e = .returned (.int .u8 (2 ^ (i % 8) : Nat)) ∧ w' = W :=
    fun W => (bit_any i W (by omega)).mono fun e w' ⟨he, hw⟩ => ⟨he, hw.symm⟩
  have hw1 : IntKind.i64.wrap ((i : Int) / 8) = (i : Int) / 8 := IntWalk.i64_in _ (by omega)
  have hw2 : 0 ≤ (i : Int) / 8 := by omega
  have hw3 : (i : Int) / 8 < (l.length : Int) := by omega
  have hw4 : ((i : Int) / 8).toNat = i / 8 := by omega
  go_still_tail 12, (by kernel_rfl)
  still_call (hbit _)
  repeat still_step
  refine wpStill_nil ?_
  change wpList _ _ _ _ _ W.drew
  clear hw1 hw2 hw3 hw4
  go_wp2
  go_ret
  have hv : (bits BinOp.andNot IntKind.u8 ((l[i / 8]).toNat : Int) (2 ^ (i % 8))) = ((l.getD (i / 8) 0 &&& UInt8.ofNat (255 - 2 ^ (i % 8))).toNat : Int) := by
    have hp := pow_lt8 i
    have hq := Nat.two_pow_pos (i % 8)
    have e : (UInt8.ofNat (255 - 2 ^ (i % 8))).toNat = 255 - 2 ^ (i % 8) := by rw [UInt8.toNat_ofNat']; omega
    rw [UInt8.toNat_and, e, List.getD, List.getElem?_eq_getElem hk8]
    have h8 : i % 8 < 8 := Nat.mod_lt _ (by omega)
    have := u8_andNot_nat (l[i / 8]).toNat (2 ^ (i % 8)) (l[i / 8]).toNat_lt (by omega)
    simpa using this
  rw [hv]
  exact ⟨rfl, HB2.out.store hk8 _, (hm0.trans (Mods.of_below ((Below.refl _ _).drew))).set (.inr rfl) _⟩
end Go.Proofs.YtabngdpijbpgeaaGreat
