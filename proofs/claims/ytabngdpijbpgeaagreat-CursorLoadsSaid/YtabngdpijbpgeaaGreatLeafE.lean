/- leaf.Del: a leaf without a key. -/
import Derived.Test.YtabngdpijbpgeaaGreatLeafD
set_option linter.unusedVariables false
set_option linter.unusedSimpArgs false
namespace Go.Proofs.YtabngdpijbpgeaaGreat
open Go Go.RowKit

def delPairs (key : ByteArray) (ps : List Pair) : List Pair := ps.take (below key ps) ++ [] ++ ps.drop (below key ps + 1)
def delL (l : LeafD) (key : ByteArray) : LeafD × Int :=
  if rightL l then (if hasKey key l.pairs then ({ l with pairs := delPairs key l.pairs }, 0) else (zeroLeaf, 7)) else (zeroLeaf, 1)

set_option maxRecDepth 100000 in
set_option maxHeartbeats 1000000 in
theorem leafdel_any (a : Option Addr) (cap : Nat) (l : LeafD) (key : ByteArray) (w : World) (hp : Row w 41 2 a l.pairs.length cap (pairCells l.pairs)) (hl : LB l) :
    Calls Tryz.prog 80 #[.agg #[.slice a l.pairs.length cap, .string l.high, .int .i64 l.next], .string key] w
      fun e w' => ∃ v, e = .returned (.tuple #[v, .int .i64 (delL l key).2]) ∧ LeafV w' v (delL l key).1 ∧ Below w.heap.size w w' := by
  have hn := hl.1.1
  unfold big at hn
  go_enter Tryz.func80, Tryz.ntmps80
  go_wp2_with fail
  generalize hW : World.alloc (World.alloc w _) _ = W
  obtain ⟨hb0, hlt0, hx, hy⟩ := boxes2 hW
  have hbox := boxR hx
  have hfrz := frzR hx
  have hboy := boxR hy
  have hfry := frzR hy
  have HX := Lib.hid hx
  have HY := Lib.hid hy
  have HP := Lib.hid (hp.below hb0)
  have HL := Lib.hid hl
  clear hW hp hl hx hy
  refine (right_any _ _ l _ HP.out.sl HL.out).mono ?_
  rintro e w1 ⟨rfl, hb1⟩
  cases hR : rightL l
  · have E1 := Lib.hid (show delL l key = (zeroLeaf, 1) by simp [delL, hR])
    go_wp2_with fail
    rw [E1.out]
    refine bodyPost_ret (v := .tuple #[.agg #[.slice none 0 0, .string emptyS, .int .i64 0], .int .i64 1]) ?_ rfl ⟨_, rfl, LeafV.zero _, ?_⟩
    · simp [results, Tryz.results80, go_sem, *]; rfl
    · exact (((hb0.trans (hb1.mono (by omega))).setCell (by simp) _).setCell (by simp) _).setCell (by simp) _
  · have HR := Lib.hid (right_rises hR)
    have HRR := Lib.hid hR
    clear hR
    go_wp2_with fail
    refine (find_any _ _ l key _ (HP.out.sl.below hb1) HL.out.1 HR.out).mono ?_
    rintro e w2 ⟨rfl, hb2⟩
    replace hb2 := keepBelow hb1 hb2
    cases hH : hasKey key l.pairs
    · have E1 := Lib.hid (show delL l key = (zeroLeaf, 7) by simp [delL, HRR.out, hH])
      go_wp2_with fail
      rw [E1.out]
      refine bodyPost_ret (v := .tuple #[.agg #[.slice none 0 0, .string emptyS, .int .i64 0], .int .i64 7]) ?_ rfl ⟨_, rfl, LeafV.zero _, ?_⟩
      · simp [results, Tryz.results80, go_sem, *]; rfl
      · exact (((hb0.trans (hb2.mono (by omega))).setCell (by simp) _).setCell (by simp) _).setCell (by simp) _
    · obtain ⟨X, hX⟩ : ∃ X, X = delPairs key l.pairs := ⟨_, rfl⟩
      have E1 := Lib.hid (show delL l key = (⟨X, l.high, l.next⟩, 0) by simp [delL, HRR.out, hH, hX])
      have HX2 := Lib.hid (show X = l.pairs.take (below key l.pairs) ++ [] ++ l.pairs.drop (below key l.pairs + 1) from hX)
      have hbl := hasKey_lt hH
      clear hX
      go_upto_region 7 with (
        (go_at_call 117; refine (over_int _ _ _ _ _ _ (below key l.pairs) (below key l.pairs + 1) _ _ l.pairs [] X _ HX2.out rfl (by simp) (HP.out.below hb2) (Row.nil _ _ _) (by omega) (by omega) (by omega)).mono ?_; rintro e w3 ⟨a3, cap3, rfl, hrow3, hfr3, hb3⟩; have hrow3 := Lib.hid hrow3; replace hb3 := keepBelow hb2 hb3))
      have hz2 := hb2.size
      have hrow4 : Row (w3.setCell ⟨w.heap.size, 0, none⟩ (.slice a3 X.length cap3)) 41 2 a3 X.length cap3 (pairCells X) :=
        hrow3.out.set (fun ad ha => by have := hfr3 ad ha; omega)
      have hx4 : (w3.setCell ⟨w.heap.size, 0, none⟩ (.slice a3 X.length cap3)).heap[w.heap.size]? = some (.cells #[.slice a3 X.length cap3, .string l.high, .int .i64 l.next] 120 (0, 0)) := by
        simpa using heap_setCell (i := 0) (heapR HX.out hb3) (.slice a3 X.length cap3)
      have hy4 := (heap_setCell_ne (g := w.heap.size) (i := 0) (v := .slice a3 X.length cap3) (by omega)).trans (heapR HY.out hb3)
      have hb4 : Below w.heap.size w (w3.setCell ⟨w.heap.size, 0, none⟩ (.slice a3 X.length cap3)) := (hb0.trans (hb3.mono (by omega))).setCell (by simp) _
      generalize w3.setCell ⟨w.heap.size, 0, none⟩ (.slice a3 X.length cap3) = W4 at *
      have hs4 := heap_lt hy4
      have hbox4 := boxR hx4
      have hboy4 := boxR hy4
      have hfry4 := frzR hy4
      have hr4 := Below.refl W4.heap.size W4
      have HR4 := Lib.hid hrow4
      clear hbox hfrz hboy hfry hb3 hb1 hb2 hrow4 hx4 hy4 hrow3
      go_wp2_with fail
      rw [E1.out]
      have hne : ∀ ad, a3 = some ad → ad.block ≠ w.heap.size + 1 := fun ad ha => by have := hfr3 ad ha; omega
      refine bodyPost_ret (v := .tuple #[.agg #[.slice a3 X.length cap3, .string l.high, .int .i64 l.next], .int .i64 0]) ?_ rfl ⟨_, rfl, ⟨a3, cap3, rfl, ((HR4.out.set hne).set hne).set hne⟩, ?_⟩
      · simp [results, Tryz.results80, go_sem, *]
      · exact ((hb4.setCell (by simp) _).setCell (by simp) _).setCell (by simp) _
end Go.Proofs.YtabngdpijbpgeaaGreat
