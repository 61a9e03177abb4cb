/- rec.Key, rec.Value, leaf.weight, leaf.Size, leaf.fits, leaf.Right: what each computes. -/
import Derived.Test.YtabngdpijbpgeaaGreatBase
set_option linter.unusedVariables false
set_option linter.unusedSimpArgs false
namespace Go.Proofs.YtabngdpijbpgeaaGreat
open Go Go.RowKit

theorem key_any (s : ByteArray) (w : World) (hs : s.size ≤ 140737488351232) :
    Calls Tryz.prog 73 #[.string s] w fun e w' => e = .returned (.bool (keyB s)) ∧ w = w' := by
  by_cases h : s.toList = []
  · have h1 : s.toList.isEmpty = true := by simp [h]
    go_enter Tryz.func73, Tryz.ntmps73
    go_wp2
    go_ret
    exact ⟨by simp [keyB, h1], rfl⟩
  · have h1 : s.toList.isEmpty = false := by simp [h]
    go_enter Tryz.func73, Tryz.ntmps73
    go_wp2
    go_ret
    exact ⟨by simp [keyB, h1], rfl⟩

theorem value_any (s : ByteArray) (w : World) (hs : s.size ≤ 140737488351232) :
    Calls Tryz.prog 74 #[.string s] w fun e w' => e = .returned (.bool (valueB s)) ∧ w = w' := by
  go_enter Tryz.func74, Tryz.ntmps74
  go_wp2
  all_goals (go_ret; exact ⟨rfl, rfl⟩)

theorem weight_any (a b : ByteArray) (w : World) (ha : a.size ≤ 140737488351232) (hb : b.size ≤ 140737488351232) :
    Calls Tryz.prog 165 #[.agg #[.string a, .string b]] w fun e w' => e = .returned (.int .i64 (2 + a.size + b.size)) ∧ Below w.heap.size w w' := by
  go_enter Tryz.func165, Tryz.ntmps165
  go_wp2
  go_ret
  exact ⟨rfl, (Below.refl _ _).alloc (Nat.le_refl _) _⟩

theorem size_any (a : Option Addr) (cap : Nat) (l : LeafD) (w : World) (hp : Sl w 41 a (pairCells l.pairs)) (hl : LB l) :
    Calls Tryz.prog 159 #[.agg #[.slice a l.pairs.length cap, .string l.high, .int .i64 l.next]] w
      fun e w' => e = .returned (.int .i64 (leafSize l)) ∧ Below w.heap.size w w' := by
  obtain ⟨ps, high, next⟩ := l
  obtain ⟨hps, hh⟩ := hl
  have hn := hps.1
  unfold big at hh hn
  dsimp only at *
  go_enter Tryz.func159, Tryz.ntmps159
  go_wp2
  go_loopw [3, 13] (fun n i wr => ∃ k : Nat, k ≤ ps.length ∧ i = .int .i64 k ∧ n = .int .i64 (5 + high.size + pairsSize (ps.take k)) ∧ Below w.heap.size w wr)
    (fun _ i _ => ps.length - (intOf i).toNat)
  case atStart =>
    exact ⟨0, Nat.zero_le _, rfl, by simp [pairsSize], (Below.refl _ _).alloc (Nat.le_refl _) _⟩
  case round =>
    obtain ⟨k, hk, rfl, rfl, hbw⟩ := hrel
    have hz := hbw.size
    by_cases hlt : k < ps.length
    · obtain ⟨p, hpk⟩ : ∃ p, ps[k]? = some p := ⟨_, List.getElem?_eq_getElem hlt⟩
      obtain ⟨b, off, rfl, hb, hc1, hc2⟩ := (hp.below hbw).pair hpk
      obtain ⟨hb1, hb2⟩ := hps.at hpk
      have ht := pairsSize_take ps k hps
      have HS := Lib.hid (pairsSize_succ ps k p hpk)
      have HK := Lib.hid hpk
      clear hpk
      go_wp2_with (go_at_call 165; refine (weight_any _ _ _ ?_ ?_).mono ?_; (omega); (omega); rintro e w' ⟨rfl, hb3⟩)
      go_roundw
      case rel =>
        refine ⟨k + 1, by omega, by go_num, ?_, ?_⟩
        · rw [HS.out]; go_num
        · exact (hbw.alloc hz _).trans (hb3.mono (by simp; omega))
      case measure => simp [intOf]; omega
    · go_wp2
      go_ret
      obtain rfl : k = ps.length := by omega
      exact ⟨by simp [leafSize], hbw⟩

theorem fits_any (a : Option Addr) (cap : Nat) (l : LeafD) (w : World) (hp : Sl w 41 a (pairCells l.pairs)) (hl : LB l) :
    Calls Tryz.prog 118 #[.agg #[.slice a l.pairs.length cap, .string l.high, .int .i64 l.next]] w
      fun e w' => e = .returned (.bool (fitsL l)) ∧ Below w.heap.size w w' := by
  have hh := hl.2
  have hz := pairsSize_take l.pairs l.pairs.length hl.1
  rw [List.take_length] at hz
  have h1 : 0 ≤ leafSize l ∧ leafSize l ≤ 9000000000000 := by unfold leafSize; unfold big at hh; omega
  obtain ⟨h1, h2⟩ := h1
  unfold big at hh
  go_enter Tryz.func118, Tryz.ntmps118
  go_wp2
  generalize hW : w.alloc (.cells #[.slice a l.pairs.length cap, .string l.high, .int .i64 l.next] 120) = W
  obtain ⟨hb0, hlt, hbox⟩ := box_facts w _ _ hW
  have HW := Lib.hid hW
  clear hW
  have hSl := Lib.hid (hp.below hb0)
  clear hp
  go_region_held3 (fun w' => Below W.heap.size W w')
    (first | exact (Below.refl _ _).drew | exact keepBelow (by assumption) (by assumption))
    ((go_at_call 159; refine (size_any _ _ l _ (hSl.out.below (by assumption)) hl).mono ?_; rintro e w' ⟨rfl, hb⟩))
  go_wp2
  go_ret
  refine ⟨?_, ?_⟩
  · rw [IntWalk.i64_in (leafSize l - ↑l.high.size) (by unfold leafSize at *; omega), IntWalk.i64_in _ (by unfold leafSize at *; omega)]; rfl
  exact hb0.trans ((by assumption : Below W.heap.size W _).mono (by omega))

theorem rightPairs_false {l : LeafD} {k : Nat} {p : Pair} (hk : l.pairs[k]? = some p) (h : (keyB p.1 && valueB p.2 && !(ltB p.1 (lastKey emptyS (l.pairs.take k)) || eqB p.1 (lastKey emptyS (l.pairs.take k)))) = false) : rightL l = false := by
  have := (okPairs_succ l.pairs k p emptyS hk).1
  rw [h, Bool.and_false] at this
  simp [rightL, okPairs_take_false _ _ _ this]

set_option maxHeartbeats 1000000 in
theorem right_any (a : Option Addr) (cap : Nat) (l : LeafD) (w : World) (hp : Sl w 41 a (pairCells l.pairs)) (hl : LB l) :
    Calls Tryz.prog 115 #[.agg #[.slice a l.pairs.length cap, .string l.high, .int .i64 l.next]] w
      fun e w' => e = .returned (.bool (rightL l)) ∧ Below w.heap.size w w' := by
  have hn := hl.1.1
  have hh := hl.2
  have hl' := Lib.hid hl
  unfold big at hn hh
  go_enter Tryz.func115, Tryz.ntmps115
  go_wp2_with fail
  generalize hW : w.alloc (.cells #[.slice a l.pairs.length cap, .string l.high, .int .i64 l.next] 120) = W
  obtain ⟨hb0, hlt0, hbox⟩ := box_facts w _ _ hW
  have HW := Lib.hid hW
  clear hW
  have hSl := Lib.hid (hp.below hb0)
  clear hp
  go_loopw [3, 10] (fun s i wr => ∃ k : Nat, k ≤ l.pairs.length ∧ i = .int .i64 k ∧ s = .string (lastKey emptyS (l.pairs.take k)) ∧ okPairs emptyS (l.pairs.take k) = true ∧ Below W.heap.size W wr)
    (fun _ i _ => l.pairs.length - (intOf i).toNat)
  case atStart =>
    exact ⟨0, Nat.zero_le _, rfl, rfl, rfl, Below.refl _ _⟩
  case round =>
    obtain ⟨k, hk, rfl, rfl, hok, hbw⟩ := hrel
    have hz := hbw.size
    by_cases hlt : k < l.pairs.length
    · obtain ⟨p, hpk⟩ : ∃ p, l.pairs[k]? = some p := ⟨_, List.getElem?_eq_getElem hlt⟩
      obtain ⟨b, off, rfl, hb, hc1, hc2⟩ := (hSl.out.below hbw).pair hpk
      obtain ⟨hb1, hb2⟩ := hl.1.at hpk
      have HS := Lib.hid (okPairs_succ l.pairs k p emptyS hpk)
      have HF := Lib.hid (@rightPairs_false l k p hpk)
      have HO := Lib.hid hok
      clear hpk hok
      generalize hlk : lastKey emptyS (l.pairs.take k) = lk at *
      clear hlk
      go_wp2_with (first
        | (go_at_call 73; refine (key_any _ _ (by omega)).mono ?_; rintro e w' ⟨rfl, rfl⟩)
        | (go_at_call 74; refine (value_any _ _ (by omega)).mono ?_; rintro e w' ⟨rfl, rfl⟩))
      case roundEnd =>
        go_roundw
        case rel =>
          refine ⟨k + 1, by omega, by go_num, by rw [HS.out.2], ?_, hbw.alloc hz _⟩
          rw [HS.out.1, HO.out]
          simp [ltB, eqB, *]
        case measure => simp [intOf]; omega
      all_goals
        have e : rightL l = false := by
          apply HF.out
          first
            | (have h : ¬ keyB p.1 = true := by assumption
               simp only [Bool.not_eq_true] at h
               simp only [h, Bool.and_false, Bool.false_and])
            | (have h : ¬ valueB p.2 = true := by assumption
               simp only [Bool.not_eq_true] at h
               simp only [h, Bool.and_false, Bool.false_and])
            | (rcases (by assumption : Op.bytesLess p.1.toList lk.toList = true ∨ (p.1.toList == lk.toList) = true) with h | h <;> simp [ltB, eqB, h])
        rw [e]
        go_ret
        exact ⟨rfl, hb0.trans ((hbw.alloc hz _).mono (by omega))⟩
    · obtain rfl : k = l.pairs.length := by omega
      rw [List.take_length] at *
      have HO := Lib.hid hok
      clear hok
      by_cases hhe : l.high.toList = []
      · have h1 : l.high.toList.isEmpty = true := by simp [hhe]
        have h2 : (!l.high.toList.isEmpty) = false := by simp [hhe]
        go_wp2_with (first
          | (go_at_call 118; refine (fits_any _ _ l _ (hSl.out.below (by assumption)) hl).mono ?_; rintro e w' ⟨rfl, hb⟩))
        all_goals
          go_ret
          refine ⟨?_, ?_⟩
          · first | (simp [rightL, highB, ltB, HO.out, *]; done) | (simp [rightL, highB, ltB, HO.out, *]; omega)
          · first
            | exact hb0.trans (hbw.mono (by omega))
            | exact hb0.trans ((keepBelow hbw (by assumption)).mono (by omega))
      · have h1 : l.high.toList.isEmpty = false := by simp [hhe]
        have h2 : (!l.high.toList.isEmpty) = true := by simp [hhe]
        go_wp2_with (first
          | (go_at_call 73; refine (key_any _ _ (by omega)).mono ?_; rintro e w' ⟨rfl, rfl⟩)
          | (go_at_call 118; refine (fits_any _ _ l _ (hSl.out.below (by assumption)) hl).mono ?_; rintro e w' ⟨rfl, hb⟩))
        all_goals
          go_ret
          refine ⟨?_, ?_⟩
          · first | (simp [rightL, highB, ltB, HO.out, *]; done) | (simp [rightL, highB, ltB, HO.out, *]; omega)
          · first
            | exact hb0.trans (hbw.mono (by omega))
            | exact hb0.trans ((keepBelow hbw (by assumption)).mono (by omega))
end Go.Proofs.YtabngdpijbpgeaaGreat
