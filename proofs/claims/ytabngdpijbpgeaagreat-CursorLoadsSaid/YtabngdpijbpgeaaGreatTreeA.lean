/- tree.read, tree.write at leaves; tree.At, tree.New. -/
import Derived.Test.YtabngdpijbpgeaaGreatShelfA
import Derived.Test.YtabngdpijbpgeaaGreatDecB
import Derived.Test.YtabngdpijbpgeaaGreatLeafE
set_option linter.unusedVariables false
set_option linter.unusedSimpArgs false
namespace Go.Proofs.YtabngdpijbpgeaaGreat
open Go Go.RowKit

/-- A tree's struct, its shelf; what the shelf has; the root's page. -/
structure TreeAt (w : World) (t : Nat) (L : Locs) (N : Nat) (h : Has) (root : Nat) : Prop where
  cells : w.heap[t]? = some (.cells #[.pointer (some ⟨L.s, 0, none⟩), .int .i64 root] 128 (0, 0))
  shelf : ShelfAt w L N h

theorem TreeAt.ne {w : World} {t : Nat} {L : Locs} {N root : Nat} {h : Has} (H : TreeAt w t L N h root) : t ≠ L.bb ∧ t ≠ L.mb ∧ t ≠ L.s ∧ t ≠ L.b := by
  obtain ⟨h1, H2⟩ := H
  obtain ⟨e1, ⟨l, hb, _⟩, ⟨m, ⟨arr, clock, hm, _⟩, _⟩, _⟩ := H2
  refine ⟨?_, ?_, ?_, ?_⟩
  · intro e; rw [e, hb.h2] at h1; injection h1 with h1; injection h1 with _ h1; exact absurd h1 (by decide)
  · intro e; rw [e, hm] at h1; cases h1
  · intro e; rw [e, e1] at h1; injection h1 with h1; injection h1 with _ h1; exact absurd h1 (by decide)
  · intro e; rw [e, hb.h1] at h1; injection h1 with h1; injection h1 with _ h1; exact absurd h1 (by decide)
theorem TreeAt.lt {w : World} {t : Nat} {L : Locs} {N root : Nat} {h : Has} (H : TreeAt w t L N h root) : t < w.heap.size := heap_lt H.cells
theorem TreeAt.below {w w' : World} {t : Nat} {L : Locs} {N root : Nat} {h : Has} (H : TreeAt w t L N h root) (hb : Below w.heap.size w w') : TreeAt w' t L N h root :=
  ⟨(hb.block t H.lt).trans H.cells, H.shelf.below hb⟩
/-- What a call on the shelf alone leaves of the tree's struct. -/
theorem TreeAt.re {w w' : World} {t : Nat} {L : Locs} {N root : Nat} {h h' : Has} (H : TreeAt w t L N h root) (hm : Mods L.foot w w') (hs : ShelfAt w' L N h') : TreeAt w' t L N h' root :=
  ⟨hm.heap H.cells (fun h => by obtain ⟨a, b, _⟩ := H.ne; rcases h with h | h <;> contradiction), hs⟩

def encS (l : LeafD) : ByteArray := bs (encBytes l)
theorem encS_size {l : LeafD} (hR : rightL l = true) : (encS l).size ≤ 252 := by
  have h1 := right_parts hR; have h2 := right_high hR
  unfold encS
  rw [bs_size, encBytes_length]; omega
theorem ShelfAt.isN {w : World} {L : Locs} {N : Nat} {h : Has} (H : ShelfAt w L N h) {i : Nat} {s : ByteArray} (hi : h i = some s) : i < N ∧ i < 1024 := by
  have := H.N_le
  rcases Nat.lt_or_ge i N with hN | hN
  · exact ⟨hN, by omega⟩
  · rw [H.out i hN] at hi; cases hi

theorem read_page (L : Locs) (N : Nat) (h : Has) (i : Nat) (s : ByteArray) (w : World) (H : ShelfAt w L N h) (hi : h i = some s) :
    Calls Tryz.prog 58 #[.pointer (some ⟨L.s, 0, none⟩), .int .i64 i] w fun e w' => e = .returned (.tuple #[.string s, .int .i64 0]) ∧ w = w' := by
  obtain ⟨hN, hi2⟩ := H.isN hi
  have hr := read_any L N h i (by omega) w H
  rw [if_pos hN, hi] at hr
  exact hr.mono fun e w' hh => ⟨hh.1, hh.2.symm⟩

set_option maxRecDepth 100000 in
set_option maxHeartbeats 1000000 in
theorem read_leaf (t : Nat) (L : Locs) (N : Nat) (h : Has) (root i : Nat) (l : LeafD) (w : World) (H : TreeAt w t L N h root) (hi : h i = some (encS l)) (hR : rightL l = true) :
    Calls Tryz.prog 82 #[.pointer (some ⟨t, 0, none⟩), .int .i64 i] w fun e w' => ∃ v, e = .returned (.iface 120 v) ∧ LeafN w.heap.size w' v l ∧ Below w.heap.size w w' := by
  have hr := read_page L N h i _ w H.shelf hi
  have hc0 := cell_of_heap (o := 0) H.cells
  have HD := Lib.hid (leafdec_ok l w hR)
  have hs : bs (encBytes l) = encS l := rfl
  rw [hs] at HD
  clear hs hi hR
  generalize encS l = s at *
  go_enter Tryz.func82, Tryz.ntmps82
  go_wp2_with (first
    | (go_at_call 58; refine hr.mono ?_; rintro e w' ⟨rfl, rfl⟩)
    | (go_at_call 129; refine HD.out.mono ?_; rintro e w1 ⟨v, rfl, ⟨a1, cap1, rfl, hrow1, hfr1⟩, hb1⟩; have hrow1 := Lib.hid hrow1; have hfr1 := Lib.hid hfr1; have hz1 := hb1.size))
  go_ret
  exact ⟨_, rfl, ⟨a1, cap1, rfl, hrow1.out.below ((Below.refl _ _).alloc (Nat.le_refl _) _), hfr1.out⟩, hb1.alloc hz1 _⟩

theorem ta_same {P : Program} {t : TypeId} {s : TypeDesc} (hu : P.underlying t = some s) (hs : ∀ m, s ≠ .interface m) (v : Value) (xT : TypeId) (w : World) :
    (Instr.typeAssert (.iface t v) xT t true).run P w = .ok (.tuple #[v, .bool true]) w := by
  cases s <;> first | (exact absurd rfl (hs _)) | (simp [Instr.typeAssert, run_underlying hu]; done)
theorem ta_other {P : Program} {t t' : TypeId} {s : TypeDesc} {z : Value} (hu : P.underlying t' = some s) (hs : ∀ m, s ≠ .interface m) (hne : t ≠ t') (hz : ∀ w, (zeroValue t').run P w = .ok z w) (v : Value) (xT : TypeId) (w : World) :
    (Instr.typeAssert (.iface t v) xT t' true).run P w = .ok (.tuple #[z, .bool false]) w := by
  cases s <;> first | (exact absurd rfl (hs _)) | (simp [Instr.typeAssert, run_underlying hu, hz, hne]; done)
theorem ta_leaf (v : Value) (w : World) : (Instr.typeAssert (.iface 120 v) 133 120 true).run Tryz.prog w = .ok (.tuple #[v, .bool true]) w := ta_same Tryz.underlying120 (by intro m h; cases h) v _ w
theorem ta_inner (v : Value) (w : World) : (Instr.typeAssert (.iface 150 v) 133 150 true).run Tryz.prog w = .ok (.tuple #[v, .bool true]) w := ta_same Tryz.underlying150 (by intro m h; cases h) v _ w
theorem ta_leafNot (v : Value) (w : World) : (Instr.typeAssert (.iface 120 v) 133 150 true).run Tryz.prog w = .ok (.tuple #[.agg #[.slice none 0 0, .slice none 0 0, .string emptyS, .int .i64 0], .bool false]) w :=
  ta_other Tryz.underlying150 (by intro m h; cases h) (by decide) Tryz.zeroValue150 v _ w
theorem ta_innerNot (v : Value) (w : World) : (Instr.typeAssert (.iface 150 v) 133 120 true).run Tryz.prog w = .ok (.tuple #[.agg #[.slice none 0 0, .string emptyS, .int .i64 0], .bool false]) w :=
  ta_other Tryz.underlying120 (by intro m h; cases h) (by decide) Tryz.zeroValue120 v _ w

theorem TreeAt.isN {w : World} {t : Nat} {L : Locs} {N root : Nat} {h : Has} (H : TreeAt w t L N h root) {i : Nat} (hi : (h i).isSome = true) : i < N ∧ i < 1024 := by
  cases hs : h i with
  | none => rw [hs] at hi; cases hi
  | some s => exact H.shelf.isN hs

set_option maxRecDepth 100000 in
set_option maxHeartbeats 1000000 in
theorem write_leaf (t : Nat) (L : Locs) (N : Nat) (h : Has) (root i : Nat) (l : LeafD) (v : Value) (w : World) (H : TreeAt w t L N h root) (ht : (h i).isSome = true) (hv : LeafV w v l) (hR : rightL l = true) :
    Calls Tryz.prog 78 #[.pointer (some ⟨t, 0, none⟩), .int .i64 i, .iface 120 v] w fun e w' => e = .returned (.tuple #[]) ∧ TreeAt w' t L N (upd h i (some (encS l))) root ∧ Mods (· = L.mb) w w' := by
  obtain ⟨hN, hi2⟩ := H.isN ht
  obtain ⟨a, cap, rfl, hrow⟩ := hv
  have HH := Lib.hid H
  have HT := Lib.hid ht
  have HR := Lib.hid hR
  have HS := Lib.hid (encS_size hR)
  have hs : bs (encBytes l) = encS l := rfl
  have HEQ := Lib.hid hs
  have HP := Lib.hid hrow
  clear hs hR ht hrow H
  have hta := ta_leaf
  go_enter Tryz.func78, Tryz.ntmps78
  go_wp2_with fail
  generalize hW : w.alloc (.cells #[.slice a l.pairs.length cap, .string l.high, .int .i64 l.next] 120) = W
  obtain ⟨hb0, hlt0, hx⟩ := boxes1 hW
  have hbox := boxR hx
  have HW := Lib.hid (HH.out.below hb0)
  have hc0 : ∀ w', Below W.heap.size W w' → w'.cell? ⟨t, 0, none⟩ = some (.pointer (some ⟨L.s, 0, none⟩)) := fun w' hb => cell_of_heap (o := 0) (HW.out.below hb).cells
  have HSL := Lib.hid (HP.out.below hb0).sl
  clear hW hx hta
  have HE : ∀ W0, Below W.heap.size W W0 → Calls Tryz.prog 120 #[.agg #[.slice a l.pairs.length cap, .string l.high, .int .i64 l.next]] W0 fun e w' => e = .returned (.string (encS l)) ∧ Below W0.heap.size W0 w' := by
    intro W0 h0
    have := leafenc_any a cap l W0 (HSL.out.below h0) HR.out
    rw [HEQ.out] at this
    exact this
  have HE := Lib.hid HE
  have hb9 := Below.refl W.heap.size W
  go_region_with (first
    | (go_at_call 120; refine (HE.out _ (by (repeat (first | assumption | refine Below.drew ?_ | exact Below.refl _ _)))).mono ?_; rintro e w1 ⟨rfl, hb1⟩; have hb2 : Below W.heap.size W w1 := keepBelow (Below.refl _ _).drew hb1)
    | (go_at_call 119; refine (write_ok L N h i (by omega) (encS l) _ (HW.out.shelf.below (by assumption)) HT.out HS.out).mono ?_; rintro e w2 ⟨rfl, hs2, hm2⟩))
  all_goals
    try go_wp2
    go_end0
    have hm3 : Mods (· = L.mb) w w2 := (Mods.of_below (hb0.trans (hb2.mono (by omega)))).trans hm2
    exact ⟨rfl, (HH.out.re (hm3.mono fun k _ hk => .inr hk) hs2), hm3⟩

set_option maxRecDepth 100000 in
theorem at_any (s root : Nat) (w : World) :
    Calls Tryz.prog 51 #[.pointer (some ⟨s, 0, none⟩), .int .i64 root] w fun e w' => e = .returned (.pointer (some ⟨w.heap.size, 0, none⟩)) ∧ w' = w.alloc (.cells #[.pointer (some ⟨s, 0, none⟩), .int .i64 root] 128) := by
  go_enter Tryz.func51, Tryz.ntmps51
  go_wp2
  go_ret
  exact ⟨rfl, rfl⟩

def emptyLeaf : LeafD := ⟨[], emptyS, 0⟩
theorem emptyLeaf_right : rightL emptyLeaf = true := by decide +kernel

set_option maxRecDepth 100000 in
set_option maxHeartbeats 1000000 in
theorem newtree_ok (L : Locs) (N : Nat) (h : Has) (i : Nat) (w : World) (H : ShelfAt w L N h) (hi : i < N) (hn : h i = none) (hmin : ∀ j, j < i → (h j).isSome = true) :
    Calls Tryz.prog 37 #[.pointer (some ⟨L.s, 0, none⟩)] w fun e w' => ∃ t, e = .returned (.tuple #[.pointer (some ⟨t, 0, none⟩), .int .i64 0]) ∧ w.heap.size ≤ t ∧ TreeAt w' t L N (upd h i (some (encS emptyLeaf))) i ∧ Mods L.foot w w' := by
  have htk := take_some L N h i w H hi hn hmin
  have HH := Lib.hid H
  have hupd : upd (upd h i (some ByteArray.empty)) i (some (encS emptyLeaf)) = upd h i (some (encS emptyLeaf)) := by
    funext j; unfold upd; split <;> rfl
  have HU := Lib.hid hupd
  clear H hn hmin hupd
  go_enter Tryz.func37, Tryz.ntmps37
  go_wp2_with (first
    | (go_at_call 84; refine htk.mono ?_; rintro e w1 ⟨rfl, hs1, hm1⟩)
    | (go_at_call 51; refine (at_any L.s i _).mono ?_; rintro e w2 ⟨rfl, rfl⟩)
    | (go_at_call 78; refine (write_leaf w1.heap.size L N _ i i emptyLeaf _ _ ⟨heap_alloc_new w1 _, hs1.below ((Below.refl _ _).alloc (Nat.le_refl _) _)⟩ (by simp [upd]) (LeafV.zero _) emptyLeaf_right).mono ?_; rw [HU.out]; rintro e w3 ⟨rfl, ht3, hm3⟩))
  go_ret2
  refine ⟨_, rfl, hm1.size, ht3, (hm1.trans (Mods.of_below ((Below.refl _ w1).alloc (Nat.le_refl _) _))).trans (hm3.mono fun k _ hk => .inr hk)⟩
end Go.Proofs.YtabngdpijbpgeaaGreat
