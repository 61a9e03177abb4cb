/- A tree of one leaf: levels, Leaves, way; Put where the leaf has room, Del. -/
import Derived.Test.YtabngdpijbpgeaaGreatTreeB
set_option linter.unusedVariables false
set_option linter.unusedSimpArgs false
namespace Go.Proofs.YtabngdpijbpgeaaGreat
open Go Go.RowKit

set_option maxRecDepth 100000 in
set_option maxHeartbeats 2000000 in
theorem levels_one (t : Nat) (L : Locs) (N : Nat) (h : Has) (root : Nat) (l : LeafD) (w : World) (H : TreeAt w t L N h root) (hi : h root = some (encS l)) (hR : rightL l = true) :
    Calls Tryz.prog 87 #[.pointer (some ⟨t, 0, none⟩)] w fun e w' => ∃ g1 g2 : Nat, e = .returned (.slice (some ⟨g1, 0, none⟩) 1 1) ∧
      w'.heap[g1]? = some (.cells #[.slice (some ⟨g2, 0, none⟩) 1 1] 80 (0, 0)) ∧ w'.heap[g2]? = some (.cells #[.int .i64 root] 3 (0, 0)) ∧ Below w.heap.size w w' := by
  have hc1 := cell_of_heap (o := 1) H.cells
  have HH := Lib.hid H
  have HI := Lib.hid hi
  have HR := Lib.hid hR
  clear H hi hR
  go_enter Tryz.func87, Tryz.ntmps87
  go_wp2_with fail
  generalize hW : World.alloc (World.alloc w _) _ = W
  obtain ⟨hb0, hlt0, hx, hy⟩ := boxes2 hW
  have HX := Lib.hid hx
  have HY := Lib.hid hy
  have hbox := boxR hx
  have hboy := boxR hy
  have hb9 := Below.refl W.heap.size W
  have HRD := Lib.hid (read_leaf t L N h root root l W (HH.out.below hb0) HI.out HR.out)
  clear hW hx hy hc1
  refine wp_loop_rounds 2 ?_
  rw [rounds_succ]
  go_wp2_with fail
  refine wp_loop_rounds 2 ?_
  rw [rounds_succ]
  have hta := ta_leafNot
  go_wp2_with (go_at_call 82; refine HRD.out.mono ?_; rintro e w2 ⟨v2, rfl, ⟨a2, cap2, rfl, hrow2, hfr2⟩, hb2⟩; clear hrow2 hfr2)
  clear hta
  rw [rounds_succ]
  go_wp2_with fail
  go_ret
  refine ⟨w.heap.size + 1, w.heap.size, rfl, ?_, ?_, ?_⟩
  · exact alloc_old (heapR HY.out hb2)
  · exact alloc_old (heapR HX.out hb2)
  · exact (hb0.trans (hb2.mono (by omega))).alloc (by have := hb2.size; omega) _

theorem last_of (n : Nat) : ((n : Int) + 1 - 1) = n := by omega
set_option maxRecDepth 100000 in
set_option maxHeartbeats 2000000 in
theorem leaves_one (t : Nat) (L : Locs) (N : Nat) (h : Has) (root : Nat) (l : LeafD) (w : World) (H : TreeAt w t L N h root) (hi : h root = some (encS l)) (hR : rightL l = true) :
    Calls Tryz.prog 46 #[.pointer (some ⟨t, 0, none⟩)] w fun e w' => ∃ a cap, e = .returned (.slice a ([(root, l)] : Leafs).length cap) ∧ Row w' 3 1 a ([(root, l)] : Leafs).length cap (([(root, l)] : Leafs).map fun x => pageCell x.1) ∧ Below w.heap.size w w' := by
  have HL := Lib.hid (levels_one t L N h root l w H hi hR)
  clear H hi hR
  go_enter Tryz.func46, Tryz.ntmps46
  go_wp2_with (go_at_call 87; refine HL.out.mono ?_; rintro e w1 ⟨g1, g2, rfl, h1, h2, hb⟩; have hc1 := cell_of_heap (o := 0) h1)
  go_ret
  refine ⟨some ⟨g2, 0, none⟩, 1, rfl, ⟨by simp, Nat.le_refl _, by unfold maxLen; decide, by simp, by simp, .inr ⟨g2, 0, _, _, rfl, h2, fun i v hv => ?_⟩⟩, hb⟩
  have : i = 0 := by have := (List.getElem?_eq_some_iff.1 hv).1; simp at this; omega
  subst this
  simpa [pageCell] using hv

set_option maxRecDepth 100000 in
set_option maxHeartbeats 2000000 in
theorem way_one (t : Nat) (L : Locs) (N : Nat) (h : Has) (root : Nat) (l : LeafD) (key : ByteArray) (w : World) (H : TreeAt w t L N h root) (hi : h root = some (encS l)) (hR : rightL l = true) :
    Calls Tryz.prog 75 #[.pointer (some ⟨t, 0, none⟩), .string key] w fun e w' => ∃ v, e = .returned (.tuple #[.slice none 0 0, v, .int .i64 root]) ∧ LeafV w' v l ∧ Below w.heap.size w w' := by
  have hc1 := cell_of_heap (o := 1) H.cells
  have HH := Lib.hid H
  have HI := Lib.hid hi
  have HR := Lib.hid hR
  clear H hi hR
  go_enter Tryz.func75, Tryz.ntmps75
  go_wp2_with fail
  generalize hW : World.alloc w _ = W
  obtain ⟨hb0, hlt0, hy⟩ := boxes1 hW
  have HY := Lib.hid hy
  have hboy := boxR hy
  have hfry := frzR hy
  have hb9 := Below.refl W.heap.size W
  have hc1' : W.cell? ⟨t, 1, none⟩ = some (.int .i64 root) := cell_of_heap (o := 1) (HH.out.below hb0).cells
  have HRD := Lib.hid (read_leaf t L N h root root l W (HH.out.below hb0) HI.out HR.out)
  clear hW hy hc1
  go_step3
  go_wp2_with fail
  go_step3
  have hta := ta_leaf
  have htb := ta_leafNot
  go_wp2_with (go_at_call 82; refine HRD.out.mono ?_; rintro e w2 ⟨v2, rfl, ⟨a2, cap2, rfl, hrow2, hfr2⟩, hb2⟩; have HR2 := Lib.hid hrow2; have HF2 := Lib.hid hfr2; clear hrow2 hfr2)
  clear hta htb
  generalize hW3 : World.alloc w2 _ = W3
  obtain ⟨hb3, hlt3, hx3⟩ := boxes1 hW3
  have hz2 := hb2.size
  have hbox3 := boxR hx3
  have hb4 := keepBelow hb2 hb3
  have hb99 := Below.refl W3.heap.size W3
  have HR3 := Lib.hid (HR2.out.below hb3)
  have HY3 := Lib.hid (heapR HY.out hb4)
  clear hW3
  go_region_with fail
  go_wp2_with fail
  rw [Exit.noGoto_ret]
  have hne : ∀ ad, a2 = some ad → ad.block ≠ w.heap.size := fun ad ha => by have := HF2.out ad ha; omega
  refine bodyPost_ret (v := .tuple #[.slice none 0 0, .agg #[.slice a2 l.pairs.length cap2, .string l.high, .int .i64 l.next], .int .i64 root]) ?_ rfl ⟨_, rfl, ⟨a2, cap2, rfl, ((HR3.out.set hne).set hne).set hne⟩, ?_⟩
  · simp [results, Tryz.results75, go_sem, *]
  · exact ((((hb0.trans (hb4.mono (by omega))).setCell (Nat.le_refl _) _).setCell (Nat.le_refl _) _).setCell (Nat.le_refl _) _).drew

/-- Where the leaf at the root has room. -/
def PutsOne (l : LeafD) (key val : ByteArray) (m : LeafD) : Prop := keyB key = true ∧ valueB val = true ∧ rightL l = true ∧ putL l key val = (m, 0) ∧ rightL m = true

set_option maxRecDepth 100000 in
set_option maxHeartbeats 2000000 in
theorem put_one (t : Nat) (L : Locs) (N : Nat) (h : Has) (root : Nat) (l m : LeafD) (key val : ByteArray) (w : World) (H : TreeAt w t L N h root) (hi : h root = some (encS l)) (hP : PutsOne l key val m) :
    Calls Tryz.prog 32 #[.pointer (some ⟨t, 0, none⟩), .string key, .string val] w fun e w' => e = .returned (.tuple #[.bool (decide ((getL l key).2 ≠ 0)), .int .i64 0]) ∧ TreeAt w' t L N (upd h root (some (encS m))) root ∧ Mods (· = L.mb) w w' := by
  obtain ⟨hk, hv, hR, hp, hm⟩ := hP
  have hks := keyB_size hk
  have hvs := valueB_size hv
  have HWY := Lib.hid (way_one t L N h root l key w H hi hR)
  have HLB := Lib.hid (right_LB hR)
  have HC := Lib.hid (right_count hR)
  have HPT := Lib.hid hp
  have HM := Lib.hid hm
  have HI := Lib.hid (show (h root).isSome = true by rw [hi]; rfl)
  have HH := Lib.hid H
  have HK := Lib.hid hk
  have HV := Lib.hid hv
  clear H hi hR hp hm hk hv
  go_enter Tryz.func32, Tryz.ntmps32
  go_wp2_with (first
    | (go_at_call 73; refine (key_any _ _ (by omega)).mono ?_; rw [HK.out]; rintro e w' ⟨rfl, rfl⟩)
    | (go_at_call 74; refine (value_any _ _ (by omega)).mono ?_; rw [HV.out]; rintro e w' ⟨rfl, rfl⟩)
    | (go_at_call 75; refine HWY.out.mono ?_; rintro e w1 ⟨v1, rfl, ⟨a1, cap1, rfl, hrow1⟩, hb1⟩; have HR1 := Lib.hid hrow1; clear hrow1))
  generalize hW1 : World.alloc w1 _ = W1
  obtain ⟨hb2, hlt1, hx1⟩ := boxes1 hW1
  have hbox := boxR hx1
  have hfrz := frzR hx1
  have hz1 := hb1.size
  have hb9 := Below.refl W1.heap.size W1
  have HRW := Lib.hid (HR1.out.below hb2)
  have hb3 := hb1.trans (hb2.mono hz1)
  have HX1 := Lib.hid hx1
  clear hW1 hx1
  generalize hgl : getL l key = gl at *
  have HGL := Lib.hid hgl
  clear hgl
  go_wp2_with (first
    | (go_at_call 76; refine (leafget_any _ _ l key _ HRW.out.sl HLB.out).mono ?_; rw [HGL.out]; rintro e w2 ⟨rfl, hb4⟩)
    | (go_at_call 77; refine (leafput_any _ _ l key val _ (HRW.out.below hb4) HLB.out (by unfold big; omega) (by unfold big; omega) (by have := HC.out; unfold big; omega)).mono ?_; rw [HPT.out]; rintro e w3 ⟨v3, rfl, ⟨a3, cap3, rfl, hrow3⟩, hb5⟩; have HR3 := Lib.hid hrow3; clear hrow3)
    | (go_at_call 78; refine (write_leaf t L N h root root m _ _ (HH.out.below (hb3.trans (((keepBelow hb4 hb5).alloc (Nat.le_trans hb4.size hb5.size) _).mono (by omega)))) HI.out ⟨a3, cap3, rfl, HR3.out.below ((Below.refl _ _).alloc (Nat.le_refl _) _)⟩ HM.out).mono ?_; rintro e w4 ⟨rfl, ht4, hm4⟩))
  go_ret2
  refine ⟨?_, ht4, (Mods.of_below (hb3.trans (((keepBelow hb4 hb5).alloc (Nat.le_trans hb4.size hb5.size) _).mono (by omega)))).trans hm4⟩
  rw [HGL.out]
  have e : (gl.2 != 0) = decide (gl.2 ≠ 0) := by rw [Bool.eq_iff_iff]; simp
  exact congrArg (fun b => Ending.returned (.tuple #[.bool b, .int .i64 0])) e

set_option maxRecDepth 100000 in
set_option maxHeartbeats 2000000 in
theorem del_one (t : Nat) (L : Locs) (N : Nat) (h : Has) (root : Nat) (l m : LeafD) (key : ByteArray) (w : World) (H : TreeAt w t L N h root) (hi : h root = some (encS l)) (hk : keyB key = true) (hR : rightL l = true) (hp : delL l key = (m, 0)) (hm : rightL m = true) :
    Calls Tryz.prog 33 #[.pointer (some ⟨t, 0, none⟩), .string key] w fun e w' => e = .returned (.int .i64 0) ∧ TreeAt w' t L N (upd h root (some (encS m))) root ∧ Mods (· = L.mb) w w' := by
  have hks := keyB_size hk
  have HWY := Lib.hid (way_one t L N h root l key w H hi hR)
  have HLB := Lib.hid (right_LB hR)
  have HPT := Lib.hid hp
  have HM := Lib.hid hm
  have HI := Lib.hid (show (h root).isSome = true by rw [hi]; rfl)
  have HH := Lib.hid H
  have HK := Lib.hid hk
  clear H hi hR hp hm hk
  go_enter Tryz.func33, Tryz.ntmps33
  go_wp2_with (first
    | (go_at_call 73; refine (key_any _ _ (by omega)).mono ?_; rw [HK.out]; rintro e w' ⟨rfl, rfl⟩)
    | (go_at_call 75; refine HWY.out.mono ?_; rintro e w1 ⟨v1, rfl, ⟨a1, cap1, rfl, hrow1⟩, hb1⟩; have HR1 := Lib.hid hrow1; clear hrow1))
  generalize hW1 : World.alloc w1 _ = W1
  obtain ⟨hb2, hlt1, hx1⟩ := boxes1 hW1
  have hbox := boxR hx1
  have hfrz := frzR hx1
  have hz1 := hb1.size
  have hb9 := Below.refl W1.heap.size W1
  have HRW := Lib.hid (HR1.out.below hb2)
  have hb3 := hb1.trans (hb2.mono hz1)
  clear hW1 hx1
  rcases Nat.eq_zero_or_pos m.pairs.length with hml | hml
  · obtain ⟨mp, mh, mn⟩ := m
    obtain rfl : mp = [] := List.eq_nil_of_length_eq_zero hml
    clear hml
    go_wp2_with (first
      | (go_at_call 80; refine (leafdel_any _ _ l key _ HRW.out HLB.out).mono ?_; rw [HPT.out]; rintro e w3 ⟨v3, rfl, ⟨a3, cap3, rfl, hrow3⟩, hb5⟩; have HR3 := Lib.hid hrow3; clear hrow3)
      | (go_at_call 78; refine (write_leaf t L N h root root ⟨[], mh, mn⟩ _ _ (HH.out.below (hb3.trans ((hb5.alloc hb5.size _).mono (by omega)))) HI.out ⟨a3, cap3, rfl, HR3.out.below ((Below.refl _ _).alloc (Nat.le_refl _) _)⟩ HM.out).mono ?_; rintro e w4 ⟨rfl, ht4, hm4⟩))
    go_ret
    exact ⟨rfl, ht4, (Mods.of_below (hb3.trans ((hb5.alloc hb5.size _).mono (by omega)))).trans hm4⟩
  · have hml2 : (0 : Int) < (m.pairs.length : Int) := by omega
    go_wp2_with (first
      | (go_at_call 80; refine (leafdel_any _ _ l key _ HRW.out HLB.out).mono ?_; rw [HPT.out]; rintro e w3 ⟨v3, rfl, ⟨a3, cap3, rfl, hrow3⟩, hb5⟩; have HR3 := Lib.hid hrow3; clear hrow3)
      | (go_at_call 78; refine (write_leaf t L N h root root m _ _ (HH.out.below (hb3.trans ((hb5.alloc hb5.size _).mono (by omega)))) HI.out ⟨a3, cap3, rfl, HR3.out.below ((Below.refl _ _).alloc (Nat.le_refl _) _)⟩ HM.out).mono ?_; rintro e w4 ⟨rfl, ht4, hm4⟩))
    go_ret
    exact ⟨rfl, ht4, (Mods.of_below (hb3.trans ((hb5.alloc hb5.size _).mono (by omega)))).trans hm4⟩
end Go.Proofs.YtabngdpijbpgeaaGreat
