/- leaf.Decode. -/
import Derived.Test.YtabngdpijbpgeaaGreatDecA
set_option linter.unusedVariables false
set_option linter.unusedSimpArgs false
namespace Go.Proofs.YtabngdpijbpgeaaGreat
open Go Go.RowKit

theorem extract_end (s : ByteArray) : s.extract s.size s.size = bs [] := by
  apply ByteArray.ext
  apply Array.ext'
  rw [ByteArray.data_extract]
  simp [bs]

set_option maxRecDepth 100000 in
set_option maxHeartbeats 2000000 in
theorem leafdec_no (s : ByteArray) (w : World) (hs : s.size ≤ big) (h0 : 0 < s.size) (h1 : s[0] ≠ 76) :
    Calls Tryz.prog 129 #[.string s] w fun e w' => e = .returned (.tuple #[.agg #[.slice none 0 0, .string emptyS, .int .i64 0], .int .i64 4]) ∧ Below w.heap.size w w' := by
  have H1 := Lib.hid h1
  have hs' := hs
  unfold big at hs'
  clear h1
  by_cases hb : s.size > 252
  · go_enter Tryz.func129, Tryz.ntmps129
    go_wp2_with fail
    refine bodyPost_ret (v := .tuple #[.agg #[.slice none 0 0, .string emptyS, .int .i64 0], .int .i64 4]) ?_ rfl ⟨rfl, (Below.refl _ _).alloc (Nat.le_refl _) _⟩
    simp [results, Tryz.results129, go_sem, *]; rfl
  · go_enter Tryz.func129, Tryz.ntmps129
    go_wp2_with fail
    generalize hW : World.alloc w _ = W
    obtain ⟨hb0, hlt0, hy⟩ := boxes1 hW
    have hboy := boxR hy
    have hfry := frzR hy
    clear hW hy
    refine (leafread_no s _ hs h0 H1.out).mono ?_
    rintro e w1 ⟨rfl, hb1⟩
    have hz : w.heap.size < w1.heap.size := by have := hb1.size; omega
    go_wp2_with fail
    refine bodyPost_ret (v := .tuple #[.agg #[.slice none 0 0, .string emptyS, .int .i64 0], .int .i64 4]) ?_ rfl ⟨rfl, ?_⟩
    · simp [results, Tryz.results129, go_sem, *]; rfl
    · exact ((((hb0.trans (hb1.mono (by omega))).setCell (Nat.le_refl _) _).setCell (Nat.le_refl _) _).setCell (Nat.le_refl _) _).alloc (by simp only [size_setCell]; omega) _

set_option maxRecDepth 100000 in
set_option maxHeartbeats 2000000 in
theorem leafdec_ok (l : LeafD) (w : World) (hR : rightL l = true) :
    Calls Tryz.prog 129 #[.string (bs (encBytes l))] w fun e w' => ∃ v, e = .returned (.tuple #[v, .int .i64 0]) ∧ LeafN w.heap.size w' v l ∧ Below w.heap.size w w' := by
  have hsz : (bs (encBytes l)).size ≤ 252 := by
    have h1 := right_parts hR; have h2 := right_high hR
    rw [bs_size, encBytes_length]; omega
  have hlen : (bs (encBytes l)).size = (encBytes l).length := bs_size _
  have hend := extract_end (bs (encBytes l))
  have HR := Lib.hid hR
  have HL := Lib.hid (leafread_ok l)
  rw [← hlen] at HL
  clear hlen
  generalize bs (encBytes l) = s at *
  have HE := Lib.hid hend
  clear hend hR
  go_enter Tryz.func129, Tryz.ntmps129
  go_wp2_with fail
  generalize hW : World.alloc w _ = W
  obtain ⟨hb0, hlt0, hy⟩ := boxes1 hW
  have hb9 := Below.refl W.heap.size W
  have hboy := boxR hy
  have hfry := frzR hy
  have HY := Lib.hid hy
  clear hW hy
  go_wp2_with (first
    | (go_at_call 175; refine (HL.out _ HR.out).mono ?_; rintro e w1 ⟨v, rfl, ⟨a1, cap1, rfl, hrow1, hfr1⟩, hb1⟩; have hrow1 := Lib.hid hrow1; have hfr1 := Lib.hid hfr1; have hz1 := hb1.size)
    | (go_at_call 115; refine (right_any _ _ l _ (hrow1.out.below ((Below.refl _ _).alloc (Nat.le_refl _) _)).sl (right_LB HR.out)).mono ?_; rw [HR.out]; rintro e w2 ⟨rfl, hb2⟩; have hcc := (bcell hb2).1; have hb2' := hb2; replace hb2 := keepBelow (hb1.alloc hb1.size _) hb2)
    | (go_at_call 176; refine (fbare_any ByteArray.empty _ (Nat.zero_le _)).mono ?_; rw [show bs (bareL (bl ByteArray.empty)) = ByteArray.empty from rfl]; rintro e w3 ⟨rfl, rfl⟩))
  refine bodyPost_ret (v := .tuple #[.agg #[.slice a1 l.pairs.length cap1, .string l.high, .int .i64 l.next], .int .i64 0]) ?_ rfl ⟨_, rfl, ⟨a1, cap1, rfl, (hrow1.out.below (((Below.refl _ _).alloc (Nat.le_refl _) _).trans (hb2'.mono (by simp)))).set3 (heapR HY.out hb2) (by decide) _ _ _ _ _ _, fun ad ha => by have := hfr1.out ad ha; omega⟩, ?_⟩
  · simp [results, Tryz.results129, go_sem, *]
  · exact (((hb0.trans (hb2.mono (by omega))).setCell (by simp) _).setCell (by simp) _).setCell (by simp) _
end Go.Proofs.YtabngdpijbpgeaaGreat
