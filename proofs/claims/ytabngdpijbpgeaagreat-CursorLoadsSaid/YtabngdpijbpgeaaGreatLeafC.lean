/- leaf.over: pairs with others instead of some. -/
import Derived.Test.YtabngdpijbpgeaaGreatLeafB
import Derived.Test.YtabngdpijbpgeaaGreatMem
set_option linter.unusedVariables false
set_option linter.unusedSimpArgs false
namespace Go.Proofs.YtabngdpijbpgeaaGreat
open Go Go.RowKit

theorem infoPair : (Tryz.prog.info? 41).map (fun i => (i.zero, i.size, i.bytes)) = some (some (.agg #[.string emptyS, .string emptyS]), 2, 32) := by kernel_rfl

set_option maxRecDepth 100000 in
set_option maxHeartbeats 1000000 in
theorem over_any (a b : Option Addr) (n cap m capb frm tto : Nat) (ps qs : List Pair) (w : World)
    (hp : Row w 41 2 a n cap (pairCells ps)) (hq : Row w 41 2 b m capb (pairCells qs)) (h1 : frm ≤ tto) (h2 : tto ≤ n) (hn : n + m ≤ 2097152) :
    Calls Tryz.prog 117 #[.slice a n cap, .int .i64 frm, .int .i64 tto, .slice b m capb] w
      fun e w' => ∃ v, e = .returned v ∧ w'.ownsRow w.heap.size 41 2 v (frm + m + (n - tto)) (pairCells (ps.take frm ++ qs ++ ps.drop tto)) ∧ Below w.heap.size w w' := by
  obtain ⟨i, hi, hz, hs, hby⟩ := info_parts infoPair
  have hmk := fun (w : World) => run_make (P := Tryz.prog) w 46 41 i _ Tryz.underlying46 hi hz .i64 .i64 (frm : Int) ((n : Int) + m) (by omega) (by omega) (by rw [hby]; omega) (by omega)
  have HI := Lib.hid hi
  have HZ := Lib.hid hz
  have HS := Lib.hid hs
  have HBY := Lib.hid hby
  have HP := Lib.hid hp
  have HQ := Lib.hid hq
  have hc1 := hp.2.1
  have hc2 := hp.2.2.1
  clear hi hz hs hby hp hq
  unfold maxLen at hc2
  go_enter Tryz.func117, Tryz.ntmps117
  have hsz : (Tryz.prog.info? 41).map (·.size) = some 2 := by rw [HI.out]; simp [HS.out]
  have HSZ := Lib.hid hsz
  clear hsz
  go_upto_region 2 with (fail)
  generalize hW : w.alloc (.cells (madeCells #[Value.string emptyS, Value.string emptyS] ((n + m) * i.size)) 41) = W1
  have hb1 : Below w.heap.size w W1 := by rw [← hW]; exact (Below.refl _ _).alloc (Nat.le_refl _) _
  have hg1 : W1.heap[w.heap.size]? = some (.cells (madeCells #[Value.string emptyS, Value.string emptyS] ((n + m) * i.size)) 41 (0, 0)) := by rw [← hW]; exact heap_alloc_new w _
  have hl1 : (madeCells #[Value.string emptyS, Value.string emptyS] ((n + m) * i.size)).size = (n + m) * 2 := by rw [size_madeCells, HS.out]
  generalize madeCells #[Value.string emptyS, Value.string emptyS] ((n + m) * i.size) = cur at hg1 hl1 hW
  have hlt1 : w.heap.size < W1.heap.size := heap_lt hg1
  have HG1 := Lib.hid hg1
  have HL1 := Lib.hid hl1
  clear hW hg1 hl1
  go_upto_region 3 with (
    (refine wpList_copy_row _ rfl (.tmp 17) (.tmp 20) 46 46 rfl 41 2 Tryz.underlying46 HSZ.out w.heap.size 0 frm (n + m) a frm cap (by rfl) (by rfl) cur 41 41 HG1.out _ ((HP.out.below hb1).to (by omega)) (by simp [HL1.out]; omega) (fun v hv => pairCells_oneCell _ _ (List.mem_of_mem_take hv)) ?_; intro W2 hg2 hgr2))
  have hb2 : Below w.heap.size w W2 := hb1.grown hgr2 (Nat.le_of_lt hlt1) (by intro k hk; injection hk with hk; omega)
  have hlt2 : w.heap.size < W2.heap.size := Nat.lt_of_lt_of_le hlt1 hgr2.size
  have hown2 : W2.ownsRow w.heap.size 41 2 (.slice (some ⟨w.heap.size, 0, none⟩) frm (n + m)) frm (pairCells (ps.take frm)) := by
    have hL : ps.length = n := by have := HP.out.1; rw [pairCells_length] at this; omega
    refine ⟨by rw [pairCells_length, List.length_take]; congr 1; omega, .inr ⟨w.heap.size, n + m, _, rfl, Nat.le_refl _, hg2, by omega, by unfold maxLen; omega, ?_, ?_⟩⟩
    · have := HL1.out
      simp [splice, pairCells_length, hL]; omega
    · have e : ((pairCells ps).take (frm * 2)).take (Nat.min frm frm * 2) = pairCells (ps.take frm) := by
        rw [show Nat.min frm frm = frm from Nat.min_self frm, List.take_take, Nat.min_self, pairCells_take]
      rw [e, List.toList_toArray]
      exact splice_take _ _ _ (by rw [pairCells_length, List.length_take, hL]; congr 1; omega)
  clear hg2 hgr2
  have hz' := Lib.hid hown2
  clear hown2
  go_upto_region 4 with (
    (at_builtin; refine wpList_append_row _ rfl (.tmp 22) (.tmp 23) 46 rfl w.heap.size 41 i _ 2 32 Tryz.underlying46 HI.out HZ.out HS.out HBY.out rfl (by omega) _ frm _ rfl hz'.out b m capb 41 _ (by rfl) (HQ.out.below hb2) (pairCells_oneCell _) (by unfold maxLen; omega) (by omega) (Nat.le_of_lt hlt2) ?_; intro v3 W3 hown3 hgr3))
  have hb3 : Below w.heap.size w W3 := hb2.grown hgr3 (Nat.le_of_lt hlt2) (fun k hk => (hz'.out.lt k hk).1)
  have hlt3 : w.heap.size < W3.heap.size := Nat.lt_of_lt_of_le hlt2 hgr3.size
  have hz3 := Lib.hid hown3
  clear hgr3 hown3 hz'
  obtain ⟨a4, cap4, hsl4, hrow4⟩ := (HP.out.below hb3).run_from Tryz.underlying46 HSZ.out h2
  have HR4 := Lib.hid hrow4
  have hl4 : (frm + m) + (n - tto) ≤ 2097152 := by omega
  clear hrow4
  go_wp2_with (
    (at_builtin; refine wpList_append_row _ rfl (.tmp 25) (.tmp 28) 46 rfl w.heap.size 41 i _ 2 32 Tryz.underlying46 HI.out HZ.out HS.out HBY.out rfl (by omega) _ (frm + m) _ rfl hz3.out a4 (n - tto) cap4 41 _ (by rfl) HR4.out (fun v hv => pairCells_oneCell _ _ (List.mem_of_mem_drop hv)) (by unfold maxLen; omega) (by omega) (Nat.le_of_lt hlt3) ?_; intro v5 W5 hown5 hgr5))
  go_ret
  refine ⟨v5, rfl, ?_, hb3.grown hgr5 (Nat.le_of_lt hlt3) (fun k hk => (hz3.out.lt k hk).1)⟩
  rw [pairCells_append, pairCells_append]
  rw [pairCells_drop] at hown5
  exact hown5

theorem over_int (a b : Option Addr) (n cap m capb frm tto : Nat) (fi ti : Int) (ps qs X : List Pair) (w : World) (hX : X = ps.take frm ++ qs ++ ps.drop tto) (hf : fi = frm) (ht : ti = tto)
    (hp : Row w 41 2 a n cap (pairCells ps)) (hq : Row w 41 2 b m capb (pairCells qs)) (h1 : frm ≤ tto) (h2 : tto ≤ n) (hn : n + m ≤ 2097152) :
    Calls Tryz.prog 117 #[.slice a n cap, .int .i64 fi, .int .i64 ti, .slice b m capb] w
      fun e w' => ∃ a' cap', e = .returned (.slice a' X.length cap') ∧ Row w' 41 2 a' X.length cap' (pairCells X) ∧ Fresh w.heap.size a' ∧ Below w.heap.size w w' := by
  subst hf; subst ht
  refine (over_any a b n cap m capb frm tto ps qs w hp hq h1 h2 hn).mono ?_
  rintro e w' ⟨v, rfl, hown, hb⟩
  have hl : X.length = frm + m + (n - tto) := by
    have e1 := hp.1; have e2 := hq.1
    rw [pairCells_length] at e1 e2
    rw [hX]; simp; omega
  rw [← hX, ← hl] at hown
  obtain ⟨a', cap', rfl, hr, hf⟩ := ownsRow_fresh hown
  exact ⟨a', cap', rfl, hr, hf, hb⟩
end Go.Proofs.YtabngdpijbpgeaaGreat
