/- leaf.find and what it calls; leaf.Get. -/
import Derived.Test.YtabngdpijbpgeaaGreatLeafA
import Derived.Test.YtabngdpijbpgeaaGreatOrd
import Derived.Test.YtabngdpijbpgeaaGreatShelf
set_option linter.unusedVariables false
set_option linter.unusedSimpArgs false
namespace Go.Proofs.YtabngdpijbpgeaaGreat
open Go Go.RowKit

theorem findf_any (k v key : ByteArray) (w : World) :
    Calls Tryz.prog 157 #[.agg #[.string k, .string v], .string key] w fun e w' => e = .returned (.int .i64 (cmpB k key)) ∧ Below w.heap.size w w' := by
  go_enter Tryz.func157, Tryz.ntmps157
  go_wp2_with (go_at_call 158; refine (Tryz.strings_Compare _ _ _).mono ?_; rintro e w' ⟨rfl, rfl⟩)
  go_ret
  exact ⟨rfl, (Below.refl _ _).alloc (Nat.le_refl _) _⟩

set_option maxHeartbeats 1000000 in
set_option maxRecDepth 100000 in
theorem search_any (a : Option Addr) (cap : Nat) (ps : List Pair) (key : ByteArray) (w : World) (hp : Sl w 41 a (pairCells ps)) (hps : PB ps) (hr : Rises ps) :
    Calls Tryz.prog 156 #[.slice a ps.length cap, .string key, .func (.func 157) #[] #[]] w
      fun e w' => e = .returned (.tuple #[.int .i64 (below key ps), .bool (hasKey key ps)]) ∧ Below w.heap.size w w' := by
  have hn := hps.1
  unfold big at hn
  have HR := Lib.hid hr
  have HP := Lib.hid hp
  clear hr hp
  go_enter Tryz.func156, Tryz.ntmps156
  go_wp2_with fail
  go_loopw [9, 10] (fun i j wr => ∃ lo hi : Nat, lo ≤ hi ∧ hi ≤ ps.length ∧ i = .int .i64 lo ∧ j = .int .i64 hi ∧ Hid ((∀ (i : Nat) (p : Pair), i < lo → ps[i]? = some p → ltB p.1 key = true) ∧ (∀ (i : Nat) (p : Pair), hi ≤ i → ps[i]? = some p → ltB p.1 key = false)) ∧ Below w.heap.size w wr)
    (fun i j _ => (intOf j).toNat - (intOf i).toNat)
  case atStart =>
    refine ⟨0, ps.length, Nat.zero_le _, Nat.le_refl _, rfl, rfl, ⟨fun i p h => by omega, fun i p h hp => ?_⟩, Below.refl _ _⟩
    rw [List.getElem?_eq_none h] at hp
    simp at hp
  case round =>
    obtain ⟨lo, hi, h1, h2, rfl, rfl, hinv, hbw⟩ := hrel
    by_cases hlt : lo < hi
    · obtain ⟨p, hpk⟩ : ∃ p, ps[(lo + hi) / 2]? = some p := ⟨_, List.getElem?_eq_getElem (by omega)⟩
      obtain ⟨b, off, rfl, hb, hc1, hc2⟩ := (HP.out.below hbw).pair hpk
      have HK := Lib.hid hpk
      clear hpk
      go_wp2_with (go_at_call 157; refine (findf_any _ _ _ _).mono ?_; rintro e w' ⟨rfl, hb3⟩)
      · have ht : ltB p.1 key = true := by rw [← cmpB_lt]; simpa using (by assumption : cmpB p.1 key < 0)
        go_roundw
        case rel =>
          refine ⟨(lo + hi) / 2 + 1, hi, by omega, h2, by go_num, rfl, ⟨fun i q hi' hq => rises_lt HR.out HK.out ht i q (by omega) hq, hinv.out.2⟩, keepBelow hbw hb3⟩
        case measure => simp [intOf]; omega
      · have ht : ltB p.1 key = false := by rw [← cmpB_lt]; simpa using (by assumption : 0 ≤ cmpB p.1 key)
        go_roundw
        case rel =>
          refine ⟨lo, (lo + hi) / 2, by omega, by omega, rfl, by go_num, ⟨hinv.out.1, fun i q hi' hq => rises_ge HR.out HK.out ht i q (by omega) hq⟩, keepBelow hbw hb3⟩
        case measure => simp [intOf]; omega
    · obtain rfl : lo = hi := by omega
      by_cases hl : lo < ps.length
      · obtain ⟨p, hpk⟩ : ∃ p, ps[lo]? = some p := ⟨_, List.getElem?_eq_getElem hl⟩
        obtain ⟨b, off, rfl, hb, hc1, hc2⟩ := (HP.out.below hbw).pair hpk
        have HK := Lib.hid hpk
        clear hpk
        go_wp2_with (go_at_call 157; refine (findf_any _ _ _ _).mono ?_; rintro e w' ⟨rfl, hb3⟩)
        go_ret2
        have e1 : below key ps = lo := below_eq h2 hinv.out.1 (fun q hq => hinv.out.2 lo q (Nat.le_refl _) hq)
        have e2 : hasKey key ps = (cmpB p.1 key == 0) := by simp only [hasKey, e1, HK.out, cmpB_zero]
        exact ⟨by rw [e1, e2]; rfl, keepBelow hbw hb3⟩
      · go_wp2_with fail
        go_ret2
        have e1 : below key ps = lo := below_eq h2 hinv.out.1 (fun q hq => hinv.out.2 lo q (Nat.le_refl _) hq)
        have e2 : hasKey key ps = false := by simp only [hasKey, e1, List.getElem?_eq_none (Nat.le_of_not_lt hl)]
        exact ⟨by rw [e1, e2]; rfl, hbw⟩

theorem find_any (a : Option Addr) (cap : Nat) (l : LeafD) (key : ByteArray) (w : World) (hp : Sl w 41 a (pairCells l.pairs)) (hps : PB l.pairs) (hr : Rises l.pairs) :
    Calls Tryz.prog 116 #[.agg #[.slice a l.pairs.length cap, .string l.high, .int .i64 l.next], .string key] w
      fun e w' => e = .returned (.tuple #[.int .i64 (below key l.pairs), .bool (hasKey key l.pairs)]) ∧ Below w.heap.size w w' := by
  have hb0 : Below w.heap.size w (w.alloc (.cells #[.slice a l.pairs.length cap, .string l.high, .int .i64 l.next] 120)) := (Below.refl _ _).alloc (Nat.le_refl _) _
  have HP := Lib.hid (hp.below hb0)
  have HR := Lib.hid hr
  have HPS := Lib.hid hps
  clear hp hr hps
  go_enter Tryz.func116, Tryz.ntmps116
  go_wp2_with (go_at_call 156; refine (search_any _ _ l.pairs key _ HP.out HPS.out HR.out).mono ?_; rintro e w' ⟨rfl, hb⟩)
  go_ret2
  exact ⟨rfl, hb0.trans (hb.mono (by simp))⟩

/-- The value of a key. -/
def getL (l : LeafD) (key : ByteArray) : ByteArray × Int :=
  if rightL l then (match l.pairs[below key l.pairs]? with | some p => if eqB p.1 key then (p.2, 0) else (emptyS, 7) | none => (emptyS, 7)) else (emptyS, 1)

theorem leafget_any (a : Option Addr) (cap : Nat) (l : LeafD) (key : ByteArray) (w : World) (hp : Sl w 41 a (pairCells l.pairs)) (hl : LB l) :
    Calls Tryz.prog 76 #[.agg #[.slice a l.pairs.length cap, .string l.high, .int .i64 l.next], .string key] w
      fun e w' => e = .returned (.tuple #[.string (getL l key).1, .int .i64 (getL l key).2]) ∧ Below w.heap.size w w' := by
  go_enter Tryz.func76, Tryz.ntmps76
  go_wp2_with fail
  generalize hW : w.alloc (.cells #[.slice a l.pairs.length cap, .string l.high, .int .i64 l.next] 120) = W
  obtain ⟨hb0, hlt0, hbox⟩ := box_facts w _ _ hW
  have HW := Lib.hid hW
  have HP := Lib.hid (hp.below hb0)
  have HL := Lib.hid hl
  clear hW hp hl
  refine (right_any _ _ l _ HP.out HL.out).mono ?_
  rintro e w1 ⟨rfl, hb1⟩
  by_cases hR : rightL l = true
  · have hr : Rises l.pairs := by
      simp only [rightL, Bool.and_eq_true] at hR
      exact okPairs_rises hR.1.1.1.1
    have HR := Lib.hid hr
    clear hr
    by_cases hH : hasKey key l.pairs = true
    · obtain ⟨p, hpk, hpe⟩ : ∃ p, l.pairs[below key l.pairs]? = some p ∧ eqB p.1 key = true := by
        unfold hasKey at hH
        split at hH
        · exact ⟨_, by assumption, hH⟩
        · simp at hH
      have e1 : getL l key = (p.2, 0) := by simp only [getL, hR, hpk, hpe, if_true]
      have E1 := Lib.hid e1
      have HK := Lib.hid hpk
      have hlk := (List.getElem?_eq_some_iff.1 hpk).1
      clear hpk e1 hpe
      obtain ⟨b, off, rfl, hb, hc1, hc2⟩ := HP.out.pairR HK.out
      go_wp2_with (go_at_call 116; refine (find_any _ _ l key _ (HP.out.below (by assumption)) HL.out.1 HR.out).mono ?_; rintro e w2 ⟨rfl, hb2⟩; replace hb2 := keepBelow hb1 hb2)
      go_ret2
      exact ⟨by rw [E1.out]; rfl, hb0.trans (hb2.mono (by omega))⟩
    · have e1 : getL l key = (emptyS, 7) := by
        unfold hasKey at hH
        simp only [getL, hR, if_true]
        split
        · rename_i p h; rw [h] at hH; simp only [Bool.not_eq_true] at hH; rw [hH]; rfl
        · rfl
      have E1 := Lib.hid e1
      clear e1
      go_wp2_with (go_at_call 116; refine (find_any _ _ l key _ (HP.out.below (by assumption)) HL.out.1 HR.out).mono ?_; rintro e w2 ⟨rfl, hb2⟩; replace hb2 := keepBelow hb1 hb2)
      go_ret2
      exact ⟨by rw [E1.out]; rfl, hb0.trans (hb2.mono (by omega))⟩
  · have e1 : getL l key = (emptyS, 1) := by simp only [getL, hR]; rfl
    have E1 := Lib.hid e1
    clear e1
    go_wp2_with fail
    go_ret2
    exact ⟨by rw [E1.out]; rfl, hb0.trans (hb1.mono (by omega))⟩
end Go.Proofs.YtabngdpijbpgeaaGreat
