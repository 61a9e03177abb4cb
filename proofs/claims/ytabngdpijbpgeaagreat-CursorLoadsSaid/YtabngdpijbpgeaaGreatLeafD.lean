/- leaf.Put, leaf.Del, leaf.Split: a leaf with another value, without a key, as two. -/
import Derived.Test.YtabngdpijbpgeaaGreatLeafC
set_option linter.unusedVariables false
set_option linter.unusedSimpArgs false
namespace Go.Proofs.YtabngdpijbpgeaaGreat
open Go Go.RowKit

def putPairs (key val : ByteArray) (ps : List Pair) : List Pair :=
  ps.take (below key ps) ++ [(key, val)] ++ ps.drop (if hasKey key ps then below key ps + 1 else below key ps)
def putArgs (l : LeafD) (key val : ByteArray) : Bool := rightL l && keyB key && valueB val && (l.high.toList.isEmpty || ltB key l.high)
def putL (l : LeafD) (key val : ByteArray) : LeafD × Int :=
  if putArgs l key val then (if fitsL { l with pairs := putPairs key val l.pairs } then ({ l with pairs := putPairs key val l.pairs }, 0) else (zeroLeaf, 6)) else (zeroLeaf, 1)

theorem putArgs_not {l : LeafD} {key val : ByteArray} (h : (!l.high.toList.isEmpty) = true ∧ (!Op.bytesLess key.toList l.high.toList) = true) : putArgs l key val = false := by
  have h1 : l.high.toList.isEmpty = false := by simpa using h.1
  have h2 : ltB key l.high = false := by have := h.2; unfold ltB; simpa using this
  simp [putArgs, h1, h2]

theorem putArgs_yes {l : LeafD} {key val : ByteArray} (h1 : rightL l = true) (h2 : keyB key = true) (h3 : valueB val = true) (h : (!l.high.toList.isEmpty) = false ∨ (!Op.bytesLess key.toList l.high.toList) = false) : putArgs l key val = true := by
  simp only [putArgs, h1, h2, h3, Bool.true_and]
  rcases h with h | h
  · have : l.high.toList.isEmpty = true := by simpa using h
    simp [this]
  · have : ltB key l.high = true := by unfold ltB; simpa using h
    simp [this]
theorem hasKey_lt {key : ByteArray} {ps : List Pair} (h : hasKey key ps = true) : below key ps < ps.length := by
  unfold hasKey at h
  split at h
  · exact (List.getElem?_eq_some_iff.1 (by assumption)).1
  · simp at h
theorem putPairs_PB {key val : ByteArray} {ps : List Pair} (h : PB ps) (hk : key.size ≤ big) (hv : val.size ≤ big) (hn : ps.length < big) : PB (putPairs key val ps) := by
  refine ⟨?_, fun p hp => ?_⟩
  · have := below_le key ps
    unfold putPairs
    simp only [List.length_append, List.length_take, List.length_drop, List.length_cons, List.length_nil]
    split <;> omega
  · simp only [putPairs, List.mem_append, List.mem_singleton] at hp
    rcases hp with (hp | rfl) | hp
    · exact h.2 p (List.mem_of_mem_take hp)
    · exact ⟨hk, hv⟩
    · exact h.2 p (List.mem_of_mem_drop hp)
theorem right_rises {l : LeafD} (h : rightL l = true) : Rises l.pairs := by
  simp only [rightL, Bool.and_eq_true] at h
  exact okPairs_rises h.1.1.1.1

set_option maxRecDepth 100000 in
set_option maxHeartbeats 1000000 in
theorem leafput_any (a : Option Addr) (cap : Nat) (l : LeafD) (key val : ByteArray) (w : World) (hp : Row w 41 2 a l.pairs.length cap (pairCells l.pairs)) (hl : LB l)
    (hk : key.size ≤ big) (hv : val.size ≤ big) (hnn : l.pairs.length < big) :
    Calls Tryz.prog 77 #[.agg #[.slice a l.pairs.length cap, .string l.high, .int .i64 l.next], .string key, .string val] w
      fun e w' => ∃ v, e = .returned (.tuple #[v, .int .i64 (putL l key val).2]) ∧ LeafV w' v (putL l key val).1 ∧ Below w.heap.size w w' := by
  unfold big at hk hv hnn
  have hn := hl.1.1
  unfold big at hn
  go_enter Tryz.func77, Tryz.ntmps77
  go_wp2_with fail
  generalize hW : World.alloc (World.alloc w _) _ = W
  obtain ⟨hb0, hlt0, hx, hy⟩ := boxes2 hW
  have hbox := boxR hx
  have hfrz := frzR hx
  have hboy := boxR hy
  have hfry := frzR hy
  have HX := Lib.hid hx
  have HY := Lib.hid hy
  have HP := Lib.hid (hp.below hb0)
  have HL := Lib.hid hl
  clear hW hp hl hx hy
  go_wp2_with (first
    | (go_at_call 115; refine (right_any _ _ l _ HP.out.sl HL.out).mono ?_; rintro e w1 ⟨rfl, hb1⟩)
    | (go_at_call 73; refine (key_any _ _ (by omega)).mono ?_; rintro e w' ⟨rfl, rfl⟩)
    | (go_at_call 74; refine (value_any _ _ (by omega)).mono ?_; rintro e w' ⟨rfl, rfl⟩))
  rotate_left
  rotate_right
  rotate_left 2
  all_goals try (
    have e1 : putL l key val = (zeroLeaf, 1) := by
      have e0 : putArgs l key val = false := by
        first
          | (simp [putArgs, ltB, *]; done)
          | exact putArgs_not (by assumption)
      simp only [putL, e0]; rfl
    rw [e1]
    refine bodyPost_ret (v := .tuple #[.agg #[.slice none 0 0, .string emptyS, .int .i64 0], .int .i64 1]) ?_ rfl ⟨_, rfl, LeafV.zero _, ?_⟩
    · simp [results, Tryz.results77, go_sem, *]
      rfl
    · exact (((hb0.trans (hb1.mono (by omega))).setCell (by simp) _).setCell (by simp) _).setCell (by simp) _)
  all_goals
    have hA : putArgs l key val = true := by
      first
        | (simp [putArgs, ltB, *]; done)
        | exact putArgs_yes (by assumption) (by assumption) (by assumption) (by assumption)
    have hr : Rises l.pairs := right_rises (by assumption)
    have HA := Lib.hid hA
    have HR := Lib.hid hr
    clear hA hr
    refine (find_any _ _ l key _ (HP.out.sl.below hb1) HL.out.1 HR.out).mono ?_
    rintro e w2 ⟨rfl, hb2⟩
    replace hb2 := keepBelow hb1 hb2
    have hbl := below_le key l.pairs
    obtain ⟨j, hj⟩ : ∃ j, j = if hasKey key l.pairs then below key l.pairs + 1 else below key l.pairs := ⟨_, rfl⟩
    have hj2 : below key l.pairs ≤ j ∧ j ≤ l.pairs.length ∧ j ≤ below key l.pairs + 1 := by
      rw [hj]; split
      · have := hasKey_lt (by assumption); omega
      · omega
    obtain ⟨hj3, hj4, hj5⟩ := hj2
    have HJ := Lib.hid hj
    obtain ⟨X, hX⟩ : ∃ X, X = putPairs key val l.pairs := ⟨_, rfl⟩
    have HX2 := Lib.hid (show X = l.pairs.take (below key l.pairs) ++ [(key, val)] ++ l.pairs.drop j by rw [hX, hj]; rfl)
    have HX3 := Lib.hid hX
    have HLX := Lib.hid (show LB ⟨X, l.high, l.next⟩ from ⟨by rw [hX]; exact putPairs_PB HL.out.1 (by unfold big; omega) (by unfold big; omega) (by unfold big; omega), HL.out.2⟩)
    clear hj hX
    by_cases hH : hasKey key l.pairs = true
    all_goals
      go_upto_region 8 with (
        (go_at_call 117; refine (over_int _ _ _ _ _ _ (below key l.pairs) j _ _ l.pairs [(key, val)] X _ HX2.out rfl (by have := HJ.out; simp [hH] at this; omega) ((HP.out.below hb2).below ((Below.refl _ _).alloc (Nat.le_refl _) _)) (rowLit _ 41 2 1 #[.string key, .string val] rfl (by unfold maxLen; omega)) hj3 hj4 (by omega)).mono ?_; rintro e w3 ⟨a3, cap3, rfl, hrow3, hfr3, hb3⟩; have hrow3 := Lib.hid hrow3; replace hb3 := keepBelow (hb2.alloc hb2.size _) hb3))
      have hz2 := hb2.size
      have hrow4 : Row (w3.setCell ⟨w.heap.size, 0, none⟩ (.slice a3 X.length cap3)) 41 2 a3 X.length cap3 (pairCells X) :=
        hrow3.out.set (fun ad ha => by have := hfr3 ad ha; simp at this; omega)
      have hx4 : (w3.setCell ⟨w.heap.size, 0, none⟩ (.slice a3 X.length cap3)).heap[w.heap.size]? = some (.cells #[.slice a3 X.length cap3, .string l.high, .int .i64 l.next] 120 (0, 0)) := by
        simpa using heap_setCell (i := 0) (heapR HX.out hb3) (.slice a3 X.length cap3)
      have hy4 := (heap_setCell_ne (g := w.heap.size) (i := 0) (v := .slice a3 X.length cap3) (by omega)).trans (heapR HY.out hb3)
      have hb4 : Below w.heap.size w (w3.setCell ⟨w.heap.size, 0, none⟩ (.slice a3 X.length cap3)) := (hb0.trans (hb3.mono (by omega))).setCell (by simp) _
      generalize w3.setCell ⟨w.heap.size, 0, none⟩ (.slice a3 X.length cap3) = W4 at *
      have hs4 := heap_lt hy4
      have hbox4 := boxR hx4
      have hboy4 := boxR hy4
      have hfry4 := frzR hy4
      have hr4 := Below.refl W4.heap.size W4
      have HR4 := Lib.hid hrow4
      clear hbox hfrz hboy hfry hb3 hb1 hb2 hrow4 hx4 hy4 hrow3
      cases hf : fitsL ⟨X, l.high, l.next⟩
      · have e1 : putL l key val = (zeroLeaf, 6) := by
          simp only [putL, HA.out, ← HX3.out, hf, if_true]; rfl
        have E1 := Lib.hid e1
        clear e1
        go_wp2_with (
          (go_at_call 118; refine (fits_any _ _ ⟨X, l.high, l.next⟩ _ HR4.out.sl HLX.out).mono ?_; rintro e w5 ⟨rfl, hb5⟩))
        rw [E1.out]
        refine bodyPost_ret (v := .tuple #[.agg #[.slice none 0 0, .string emptyS, .int .i64 0], .int .i64 6]) ?_ rfl ⟨_, rfl, LeafV.zero _, ?_⟩
        · simp [results, Tryz.results77, go_sem, *]; rfl
        · exact (((hb4.trans (hb5.mono (by omega))).setCell (by simp) _).setCell (by simp) _).setCell (by simp) _
      · have e1 : putL l key val = (⟨X, l.high, l.next⟩, 0) := by
          simp only [putL, HA.out, ← HX3.out, hf, if_true]
        have E1 := Lib.hid e1
        clear e1
        go_wp2_with (
          (go_at_call 118; refine (fits_any _ _ ⟨X, l.high, l.next⟩ _ HR4.out.sl HLX.out).mono ?_; rintro e w5 ⟨rfl, hb5⟩))
        rw [E1.out]
        have hne : ∀ ad, a3 = some ad → ad.block ≠ w.heap.size + 1 := fun ad ha => by have := hfr3 ad ha; simp at this; omega
        refine bodyPost_ret (v := .tuple #[.agg #[.slice a3 X.length cap3, .string l.high, .int .i64 l.next], .int .i64 0]) ?_ rfl ⟨_, rfl, ⟨a3, cap3, rfl, (((HR4.out.below hb5).set hne).set hne).set hne⟩, ?_⟩
        · simp [results, Tryz.results77, go_sem, *]
        · exact (((hb4.trans (hb5.mono (by omega))).setCell (by simp) _).setCell (by simp) _).setCell (by simp) _
end Go.Proofs.YtabngdpijbpgeaaGreat
