/- Package shelf: New, Take, Read, Write, Give, Free, Taken. -/
import Derived.Test.YtabngdpijbpgeaaGreatMapA
set_option linter.unusedVariables false
set_option linter.unusedSimpArgs false
namespace Go.Proofs.YtabngdpijbpgeaaGreat
open Go Go.RowKit

/-- Where a shelf lies: its struct, its bits' struct, their bytes, its map. -/
structure Locs where
  (s b bb mb : Nat)
def Locs.foot (L : Locs) (k : Nat) : Prop := k = L.bb ∨ k = L.mb
abbrev Has := Nat → Option ByteArray
def upd (h : Has) (i : Nat) (x : Option ByteArray) : Has := fun j => if j = i then x else h j

structure ShelfAt (w : World) (L : Locs) (N : Nat) (h : Has) : Prop where
  cells : w.heap[L.s]? = some (.cells #[.pointer (some ⟨L.b, 0, none⟩), .map (some L.mb)] 140 (0, 0))
  bits : ∃ l, BitsAt w L.b L.bb l N ∧ ∀ i, i < N → tk l i = (h i).isSome
  map : ∃ m, MapAt w L.mb m ∧ mkeys m ∧ ∀ i, mfind m i = h i
  out : ∀ i, N ≤ i → h i = none

theorem ShelfAt.apart {w : World} {L : Locs} {N : Nat} {h : Has} (H : ShelfAt w L N h) : L.s ≠ L.bb ∧ L.s ≠ L.mb ∧ L.b ≠ L.bb ∧ L.b ≠ L.mb ∧ L.bb ≠ L.mb := by
  obtain ⟨h1, ⟨l, hb, _⟩, ⟨m, ⟨arr, clock, hm, _⟩, _⟩, _⟩ := H
  have e1 := hb.h1
  have e2 := hb.h2
  refine ⟨?_, ?_, ?_, ?_, ?_⟩
  · intro e; rw [e, e2] at h1; injection h1 with h1; injection h1 with _ h1; exact absurd h1 (by decide)
  · intro e; rw [e, hm] at h1; cases h1
  · exact hb.ne
  · intro e; rw [e, hm] at e1; cases e1
  · intro e; rw [e, hm] at e2; cases e2
theorem ShelfAt.lt {w : World} {L : Locs} {N : Nat} {h : Has} (H : ShelfAt w L N h) : L.s < w.heap.size ∧ L.b < w.heap.size ∧ L.bb < w.heap.size ∧ L.mb < w.heap.size := by
  obtain ⟨h1, ⟨l, hb, _⟩, ⟨m, ⟨arr, clock, hm, _⟩, _⟩, _⟩ := H
  exact ⟨heap_lt h1, hb.lt1, hb.lt2, heap_lt hm⟩
theorem MapAt.mods {w w' : World} {S : Nat → Prop} {b : Nat} {m : List (Nat × ByteArray)} (h : MapAt w b m) (hm : Mods S w w') (hb : ¬ S b) : MapAt w' b m := by
  obtain ⟨arr, c, h1, h2⟩ := h
  exact ⟨arr, c, hm.heap h1 hb, h2⟩
theorem ShelfAt.mods {w w' : World} {S : Nat → Prop} {L : Locs} {N : Nat} {h : Has} (H : ShelfAt w L N h) (hm : Mods S w w') (h1 : ¬ S L.s) (h2 : ¬ S L.b) (h3 : ¬ S L.bb) (h4 : ¬ S L.mb) : ShelfAt w' L N h := by
  obtain ⟨e1, ⟨l, hb, hl⟩, ⟨m, hm1, hm2⟩, e4⟩ := H
  exact ⟨hm.heap e1 h1, ⟨l, ⟨hm.heap hb.h1 h2, hm.heap hb.h2 h3, hb.len, hb.lo, hb.hi⟩, hl⟩, ⟨m, hm1.mods hm h4, hm2⟩, e4⟩
theorem ShelfAt.below {w w' : World} {L : Locs} {N : Nat} {h : Has} (H : ShelfAt w L N h) (hb : Below w.heap.size w w') : ShelfAt w' L N h :=
  H.mods (S := fun _ => False) (Mods.of_below hb) (fun h => h) (fun h => h) (fun h => h) (fun h => h)
theorem ShelfAt.N_le {w : World} {L : Locs} {N : Nat} {h : Has} (H : ShelfAt w L N h) : 1 ≤ N ∧ N ≤ 1024 := by
  obtain ⟨_, ⟨l, hb, _⟩, _⟩ := H
  exact ⟨hb.lo, hb.hi⟩

theorem zeroStr (w : World) : (zeroValue 9).run Tryz.prog w = .ok (.string ByteArray.empty) w := Tryz.zeroValue9 w

set_option maxRecDepth 100000 in
set_option maxHeartbeats 1000000 in
theorem new_shelf (n : Nat) (w : World) (h1 : 1 ≤ n) (h2 : n ≤ 1024) :
    Calls Tryz.prog 36 #[.int .i64 n] w fun e w' => ∃ L : Locs, e = .returned (.tuple #[.pointer (some ⟨L.s, 0, none⟩), .int .i64 0]) ∧ ShelfAt w' L n (fun _ => none) ∧ w.heap.size ≤ L.s ∧ w.heap.size ≤ L.b ∧ w.heap.size ≤ L.bb ∧ w.heap.size ≤ L.mb ∧ Below w.heap.size w w' := by
  have hmm := @run_makeMap Tryz.prog
  go_enter Tryz.func36, Tryz.ntmps36
  go_wp2_with (go_at_call 83; refine (new_bits n w h1 h2).mono ?_; rintro e w1 ⟨b, bb, rfl, hb, hl1, hl2, hbl⟩)
  go_ret2
  have hsz := hbl.size
  refine ⟨⟨w1.heap.size + 1, b, bb, w1.heap.size⟩, rfl, ⟨?_, ⟨_, hb.mods (S := fun _ => False) (Mods.of_below (((Below.refl _ w1).alloc (Nat.le_refl _) _).alloc (by simp) _)) (fun h => h) (fun h => h), ?_⟩, ⟨[], ⟨#[], 0, alloc_old (heap_alloc_new w1 _), rfl⟩, by simp [mkeys], fun _ => rfl⟩, fun _ _ => rfl⟩, by simp; omega, hl1, hl2, hsz, ?_⟩
  · have := heap_alloc_new (w1.alloc (Obj.map #[] 0)) (Obj.cells #[Value.pointer (some { block := b, off := 0 }), Value.map (some w1.heap.size)] 140)
    rw [World.size_alloc] at this
    exact this
  · intro i hi
    simp [tk, List.getElem?_replicate]
    split <;> simp
  · exact (hbl.alloc hsz _).alloc (by simp; omega) _

set_option maxRecDepth 100000 in
set_option maxHeartbeats 1000000 in
theorem read_any (L : Locs) (N : Nat) (h : Has) (i : Nat) (hi : i ≤ 1048576) (w : World) (H : ShelfAt w L N h) :
    Calls Tryz.prog 58 #[.pointer (some ⟨L.s, 0, none⟩), .int .i64 i] w fun e w' =>
      e = .returned (.tuple #[.string ((h i).getD ByteArray.empty), .int .i64 (if i < N then (if (h i).isSome then 0 else 7) else 1)]) ∧ w' = w := by
  obtain ⟨h1, ⟨l, hb, hbt⟩, ⟨m, hm, hk, hmf⟩, ho⟩ := H
  have hc0 := cell_of_heap (o := 0) h1
  have hc1 := cell_of_heap (o := 1) h1
  have hlen := len_any _ _ _ _ w hb
  have hlk := run_lookup_is (P := Tryz.prog) (t := 138) Tryz.underlying138 Tryz.underlying3 hm (zeroStr w) i hi
  rw [hmf] at hlk
  by_cases hN : i < N
  · have hx : ¬ ((N : Int) ≤ (i : Int)) := by omega
    rw [if_pos hN]
    cases hs : h i with
    | none =>
      rw [hs] at hlk
      go_enter Tryz.func58, Tryz.ntmps58
      go_wp2_with (go_at_call 98; refine hlen.mono ?_; rintro e w' ⟨rfl, rfl⟩)
      go_ret2
      exact ⟨rfl, rfl⟩
    | some s =>
      rw [hs] at hlk
      go_enter Tryz.func58, Tryz.ntmps58
      go_wp2_with (go_at_call 98; refine hlen.mono ?_; rintro e w' ⟨rfl, rfl⟩)
      go_ret2
      exact ⟨rfl, rfl⟩
  · have hx : ((N : Int) ≤ (i : Int)) := by omega
    rw [if_neg hN, ho i (by omega)]
    go_enter Tryz.func58, Tryz.ntmps58
    go_wp2_with (go_at_call 98; refine hlen.mono ?_; rintro e w' ⟨rfl, rfl⟩)
    go_ret2
    exact ⟨rfl, rfl⟩

theorem ShelfAt.store {w w' : World} {L : Locs} {N : Nat} {h : Has} (H : ShelfAt w L N h) {i : Nat} (s : ByteArray) (hi : (h i).isSome = true) {m : List (Nat × ByteArray)} (hm' : ∀ i, mfind m i = h i) (hk : mkeys m) (hm : MapAt w' L.mb (mput m i s)) (hmod : Mods (· = L.mb) w w') : ShelfAt w' L N (upd h i (some s)) := by
  obtain ⟨a1, a2, a3, a4, a5⟩ := H.apart
  obtain ⟨h1, ⟨l, hb, hbt⟩, _, ho⟩ := H
  refine ⟨hmod.heap h1 a2, ⟨l, hb.mods hmod a4 a5, fun j hj => ?_⟩, ⟨_, hm, mkeys_mput hk i s, fun j => ?_⟩, fun j hj => ?_⟩
  · rw [hbt j hj]; unfold upd; by_cases h : j = i
    · simp [h, hi]
    · simp [h]
  · rw [mfind_mput, hm']; rfl
  · unfold upd; by_cases h : j = i
    · rw [ho j hj] at *; rw [← h, ho j hj] at hi; simp at hi
    · rw [if_neg h]; exact ho j hj

set_option maxRecDepth 100000 in
set_option maxHeartbeats 1000000 in
theorem write_ok (L : Locs) (N : Nat) (h : Has) (i : Nat) (hi : i ≤ 1048576) (s : ByteArray) (w : World) (H : ShelfAt w L N h) (ht : (h i).isSome = true) (hs : s.size ≤ 252) :
    Calls Tryz.prog 119 #[.pointer (some ⟨L.s, 0, none⟩), .int .i64 i, .string s] w fun e w' =>
      e = .returned (.int .i64 0) ∧ ShelfAt w' L N (upd h i (some s)) ∧ Mods (· = L.mb) w w' := by
  have hc1 := cell_of_heap (o := 1) H.cells
  have hr := read_any L N h i hi w H
  have hN : i < N := by
    rcases Nat.lt_or_ge i N with hN | hN
    · exact hN
    · rw [H.out i hN] at ht; simp at ht
  rw [if_pos hN, ht] at hr
  obtain ⟨m, hm, hk, hmf⟩ := H.map
  have hup := run_update_is (P := Tryz.prog) (t := 138) Tryz.underlying138 Tryz.underlying3 hm i hi s
  obtain ⟨w', hrun, hm', hmod⟩ := hup
  have hss : ¬ ((252 : Int) < (s.size : Int)) := by omega
  have HH := Lib.hid H
  clear H
  go_enter Tryz.func119, Tryz.ntmps119
  go_wp2_with (go_at_call 58; refine hr.mono ?_; rintro e w' ⟨rfl, rfl⟩)
  go_ret
  exact ⟨rfl, HH.out.store s ht hmf hk hm' hmod, hmod⟩

theorem ShelfAt.take {w w1 w2 : World} {L : Locs} {N : Nat} {h : Has} (H : ShelfAt w L N h) {i : Nat} (s : ByteArray) (hi : i < N) {l : List UInt8} (hbt : ∀ j, j < N → tk l j = (h j).isSome) {m : List (Nat × ByteArray)} (hm' : ∀ i, mfind m i = h i) (hk : mkeys m)
    (hb : BitsAt w1 L.b L.bb (setBit l i) N) (hl : i / 8 < l.length) (hmod : Mods (· = L.bb) w w1) (hm : MapAt w2 L.mb (mput m i s)) (hmod2 : Mods (· = L.mb) w1 w2) : ShelfAt w2 L N (upd h i (some s)) ∧ Mods L.foot w w2 := by
  obtain ⟨a1, a2, a3, a4, a5⟩ := H.apart
  obtain ⟨h1, _, _, ho⟩ := H
  refine ⟨⟨hmod2.heap (hmod.heap h1 a1) a2, ⟨_, hb.mods hmod2 a4 a5, fun j hj => ?_⟩, ⟨_, hm, mkeys_mput hk i s, fun j => ?_⟩, fun j hj => ?_⟩, (hmod.mono (fun k _ hk => .inl hk)).trans (hmod2.mono (fun k _ hk => .inr hk))⟩
  · rw [tk_setBit _ _ _ hl, hbt j hj]; unfold upd; by_cases h : j = i
    · simp [h]
    · simp [h]
  · rw [mfind_mput, hm']; rfl
  · unfold upd; rw [if_neg (by omega)]; exact ho j hj

theorem take_bits (L : Locs) (N : Nat) (h : Has) (i : Nat) (w : World) (l : List UInt8) (hb : BitsAt w L.b L.bb l N) (hbt : ∀ j, j < N → tk l j = (h j).isSome) (hi : i < N) (hn : h i = none) (hmin : ∀ j, j < i → (h j).isSome = true) :
    Calls Tryz.prog 131 #[.pointer (some ⟨L.b, 0, none⟩), .int .i64 0] w fun e w' => e = .returned (.tuple #[.int .i64 i, .int .i64 0]) ∧ BitsAt w' L.b L.bb (setBit l i) N ∧ Mods (· = L.bb) w w' :=
  (take_raw L.b L.bb l N w hb).mono fun e w' hh => by
    rcases hh with ⟨h1, _⟩ | ⟨x, h1, h2, h3, h4, h5⟩
    · have := h1 ⟨i, hi⟩; rw [hbt i hi, hn] at this; simp at this
    · have hx : x.val = i := by
        rcases Nat.lt_trichotomy x.val i with hlt | heq | hgt
        · have := hmin _ hlt; rw [← hbt _ x.isLt, h1] at this; simp at this
        · exact heq
        · have := h2 ⟨i, hi⟩ hgt; rw [hbt i hi, hn] at this; simp at this
      subst hx
      exact ⟨h3, h4, h5⟩

set_option maxRecDepth 100000 in
set_option maxHeartbeats 1000000 in
theorem take_some (L : Locs) (N : Nat) (h : Has) (i : Nat) (w : World) (H : ShelfAt w L N h) (hi : i < N) (hn : h i = none) (hmin : ∀ j, j < i → (h j).isSome = true) :
    Calls Tryz.prog 84 #[.pointer (some ⟨L.s, 0, none⟩)] w fun e w' =>
      e = .returned (.tuple #[.int .i64 i, .int .i64 0]) ∧ ShelfAt w' L N (upd h i (some ByteArray.empty)) ∧ Mods L.foot w w' := by
  obtain ⟨a1, a2, a3, a4, a5⟩ := H.apart
  have hNl := H.N_le
  have hc0 := cell_of_heap (o := 0) H.cells
  obtain ⟨l, hb, hbt⟩ := H.bits
  obtain ⟨m, hm, hk, hmf⟩ := H.map
  have htb := take_bits L N h i w l hb hbt hi hn hmin
  have hl8 : i / 8 < l.length := by have := hb.len; omega
  have hi2 : i ≤ 1048576 := by omega
  have HH := Lib.hid H
  clear H hn hmin
  go_enter Tryz.func84, Tryz.ntmps84
  go_wp2_with (go_at_call 131; refine htb.mono ?_; rintro e w1 ⟨rfl, hb1, hmod1⟩; obtain ⟨w2, hrun, hm2, hmod2⟩ := run_update_is (P := Tryz.prog) (t := 138) Tryz.underlying138 Tryz.underlying3 (hm.mods hmod1 (Ne.symm a5)) i hi2 ⟨#[]⟩; have hc1 := cell_of_heap (o := 1) (hmod1.heap HH.out.cells a1))
  go_ret2
  exact ⟨rfl, HH.out.take ByteArray.empty hi hbt hmf hk hb1 hl8 hmod1 hm2 hmod2⟩

set_option maxRecDepth 100000 in
set_option maxHeartbeats 1000000 in
theorem take_none (L : Locs) (N : Nat) (h : Has) (w : World) (H : ShelfAt w L N h) (hall : ∀ j, j < N → (h j).isSome = true) :
    Calls Tryz.prog 84 #[.pointer (some ⟨L.s, 0, none⟩)] w fun e w' => e = .returned (.tuple #[.int .i64 0, .int .i64 6]) ∧ Below w.heap.size w w' := by
  have hc0 := cell_of_heap (o := 0) H.cells
  obtain ⟨l, hb, hbt⟩ := H.bits
  have htb : Calls Tryz.prog 131 #[.pointer (some ⟨L.b, 0, none⟩), .int .i64 0] w fun e w' => e = .returned (.tuple #[.int .i64 0, .int .i64 6]) ∧ Below w.heap.size w w' :=
    (take_raw L.b L.bb l N w hb).mono fun e w' hh => by
      rcases hh with ⟨h1, h2, h3⟩ | ⟨x, h1, h2, h3, h4, h5⟩
      · exact ⟨h2, h3⟩
      · rw [hbt _ x.isLt, hall _ x.isLt] at h1; simp at h1
  clear hall hb hbt
  go_enter Tryz.func84, Tryz.ntmps84
  go_wp2_with (go_at_call 131; refine htb.mono ?_; rintro e w1 ⟨rfl, hbl⟩)
  go_ret2
  exact ⟨rfl, hbl⟩

theorem ShelfAt.give {w w1 w2 : World} {L : Locs} {N : Nat} {h : Has} (H : ShelfAt w L N h) {i : Nat} {l : List UInt8} (hbt : ∀ j, j < N → tk l j = (h j).isSome) {m : List (Nat × ByteArray)} (hm' : ∀ i, mfind m i = h i) (hk : mkeys m)
    (hb : BitsAt w1 L.b L.bb (clearBit l i) N) (hl : i / 8 < l.length) (hmod : Mods (· = L.bb) w w1) (hm : MapAt w2 L.mb (mdel m i)) (hmod2 : Mods (· = L.mb) w1 w2) : ShelfAt w2 L N (upd h i none) ∧ Mods L.foot w w2 := by
  obtain ⟨a1, a2, a3, a4, a5⟩ := H.apart
  obtain ⟨h1, _, _, ho⟩ := H
  refine ⟨⟨hmod2.heap (hmod.heap h1 a1) a2, ⟨_, hb.mods hmod2 a4 a5, fun j hj => ?_⟩, ⟨_, hm, mkeys_mdel hk i, fun j => ?_⟩, fun j hj => ?_⟩, (hmod.mono (fun k _ hk => .inl hk)).trans (hmod2.mono (fun k _ hk => .inr hk))⟩
  · rw [tk_clearBit _ _ _ hl, hbt j hj]; unfold upd; by_cases h : j = i
    · simp [h]
    · simp [h]
  · rw [mfind_mdel _ hk, hm']; rfl
  · unfold upd; by_cases h : j = i
    · simp [h]
    · rw [if_neg h]; exact ho j hj

set_option maxRecDepth 100000 in
set_option maxHeartbeats 1000000 in
theorem give_page (L : Locs) (N : Nat) (h : Has) (i : Nat) (w : World) (H : ShelfAt w L N h) (ht : (h i).isSome = true) :
    Calls Tryz.prog 127 #[.pointer (some ⟨L.s, 0, none⟩), .int .i64 i] w fun e w' =>
      e = .returned (.int .i64 0) ∧ ShelfAt w' L N (upd h i none) ∧ Mods L.foot w w' := by
  obtain ⟨a1, a2, a3, a4, a5⟩ := H.apart
  have hNl := H.N_le
  have hi : i < N := by
    rcases Nat.lt_or_ge i N with hN | hN
    · exact hN
    · rw [H.out i hN] at ht; simp at ht
  have hc0 := cell_of_heap (o := 0) H.cells
  obtain ⟨l, hb, hbt⟩ := H.bits
  obtain ⟨m, hm, hk, hmf⟩ := H.map
  have htb := give_ok L.b L.bb l N i w hb hi (by rw [hbt i hi]; exact ht)
  have hl8 : i / 8 < l.length := by have := hb.len; omega
  have hi2 : i ≤ 1048576 := by omega
  have HH := Lib.hid H
  clear H ht
  go_enter Tryz.func127, Tryz.ntmps127
  go_wp2_with (go_at_call 174; refine htb.mono ?_; rintro e w1 ⟨rfl, hb1, hmod1⟩; have hrn := fun ty => run_delete_is (P := Tryz.prog) (t := 138) (k := 3) Tryz.underlying138 Tryz.underlying3 (hm.mods hmod1 (Ne.symm a5)) i hi2 ty; obtain ⟨w2, hrun, hm2, hmod2⟩ := hrn 0; have hc1 := cell_of_heap (o := 1) (hmod1.heap HH.out.cells a1))
  go_ret
  exact ⟨rfl, HH.out.give hbt hmf hk hb1 hl8 hmod1 hm2 hmod2⟩

/-- The pages that are taken, rising. -/
def takenList (h : Has) (N : Nat) : List Nat := (List.range N).filter fun i => (h i).isSome
def pageCell (i : Nat) : Value := .int .i64 i
theorem finRange_val (N : Nat) : (List.finRange N).map (·.val) = List.range N := by
  apply List.ext_getElem
  · simp
  · intro i h1 h2; simp
theorem takenOf_list {l : List UInt8} {h : Has} {N : Nat} (hbt : ∀ j, j < N → tk l j = (h j).isSome) : (takenOf l (List.finRange N)).map intCell = (takenList h N).map pageCell ∧ cnt l N = (takenList h N).length := by
  have e : (takenOf l (List.finRange N)).map (·.val) = takenList h N := by
    unfold takenOf takenList
    rw [← finRange_val, List.filter_map]
    congr 1
    apply List.filter_congr
    intro x _
    simp [hbt x.val x.isLt]
  constructor
  · rw [← e, List.map_map]; rfl
  · unfold cnt; rw [← e, List.length_map]

theorem shelf_free (L : Locs) (N : Nat) (h : Has) (w : World) (H : ShelfAt w L N h) :
    Calls Tryz.prog 44 #[.pointer (some ⟨L.s, 0, none⟩)] w fun e w' => e = .returned (.int .i64 (N - (takenList h N).length : Nat)) ∧ Below w.heap.size w w' := by
  have hc0 := cell_of_heap (o := 0) H.cells
  obtain ⟨l, hb, hbt⟩ := H.bits
  have hf := free_any L.b L.bb l N w hb
  rw [(takenOf_list hbt).2] at hf
  go_enter Tryz.func44, Tryz.ntmps44
  go_wp2_with (go_at_call 89; refine hf.mono ?_; rintro e w1 ⟨rfl, hbl⟩)
  go_ret
  exact ⟨rfl, hbl⟩

theorem shelf_taken (L : Locs) (N : Nat) (h : Has) (w : World) (H : ShelfAt w L N h) :
    Calls Tryz.prog 50 #[.pointer (some ⟨L.s, 0, none⟩)] w fun e w' => ∃ v, e = .returned v ∧ w'.ownsRow w.heap.size 3 1 v (takenList h N).length ((takenList h N).map pageCell) ∧ Below w.heap.size w w' := by
  have hc0 := cell_of_heap (o := 0) H.cells
  obtain ⟨l, hb, hbt⟩ := H.bits
  have hf := taken_any L.b L.bb l N w hb
  rw [(takenOf_list hbt).1, show (takenOf l (List.finRange N)).length = cnt l N from rfl, (takenOf_list hbt).2] at hf
  go_enter Tryz.func50, Tryz.ntmps50
  go_wp2_with (go_at_call 90; refine hf.mono ?_; rintro e w1 ⟨v, rfl, hown, hbl⟩)
  go_ret
  exact ⟨v, rfl, hown, hbl⟩
end Go.Proofs.YtabngdpijbpgeaaGreat
