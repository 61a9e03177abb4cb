/- Package bits: the pages one by one; which are taken; how many are free. -/
import Derived.Test.YtabngdpijbpgeaaGreatStillIn
import Derived.RangeFuncNested
import Derived.RangeFuncBound
import Derived.RangeFuncCalls
import Derived.RangeFuncLeaves
import Derived.Shelf.Abstract
import Derived.Shelf.RegionOpen
import Derived.WalkKit
import Derived.OwnWalkIn
import Derived.TacticsInMore
import Derived.LoopNIn
import Derived.LoopIn
import Derived.RangeFuncBox
import Derived.Maps.AppendAt
set_option linter.unusedVariables false
set_option linter.unusedSimpArgs false
namespace Go.Proofs.YtabngdpijbpgeaaGreat
open Go Go.RowKit Go.Shelf
attribute [local go_sem] Oper.semAt_some

def upTo (N k : Nat) : List (Fin N) := (List.finRange N).take k
theorem upTo_succ {N k : Nat} (h : k < N) : upTo N (k + 1) = upTo N k ++ [⟨k, h⟩] := by
  unfold upTo
  rw [List.take_succ_eq_append_getElem (by simpa using h)]
  simp
theorem upTo_all (N : Nat) : upTo N N = List.finRange N := by
  unfold upTo; rw [List.take_of_length_le (by simp)]
theorem upTo_length {N k : Nat} (h : k ≤ N) : (upTo N k).length = k := by simp [upTo]; omega

/-- Some blocks lie as they lay. -/
def KeepB (s : List Nat) (W W' : World) : Prop := ∀ k ∈ s, W'.heap[k]? = W.heap[k]?
theorem KeepB.trans {s : List Nat} {A B C : World} (h : KeepB s A B) (h' : KeepB s B C) : KeepB s A C := fun k hk => (h' k hk).trans (h k hk)
theorem KeepB.cell {s : List Nat} {A B : World} (h : KeepB s A B) {k o : Nat} (hk : k ∈ s) : B.cell? ⟨k, o, none⟩ = A.cell? ⟨k, o, none⟩ := by simp only [World.cell?, h k hk]
theorem KeepB.putObj {s : List Nat} {n : Nat} (hs : ∀ k ∈ s, k < n) (W : World) (l : Nat) (o o' : Obj) (hl : n ≤ l) (h1 : W.heap[l]? = some o) (h2 : o.isCells = false) (h3 : o.isWalk = false) : KeepB s W (W.putObj l o') := fun k hk => by
  have := hs k hk
  simp only [World.putObj]
  rw [Array.getElem?_setIfInBounds_ne (by omega)]
theorem KeepB.below {s : List Nat} {n : Nat} {A B : World} (hs : ∀ k ∈ s, k < n) (h : Below n A B) : KeepB s A B := fun k hk => h.block k (hs k hk)
theorem KeepB.mods {s : List Nat} {S : Nat → Prop} {A B : World} (hs : ∀ k ∈ s, k < A.heap.size ∧ ¬ S k) (h : Mods S A B) : KeepB s A B := fun k hk => h.block k (hs k hk).1 (hs k hk).2

set_option maxRecDepth 100000 in
set_option maxHeartbeats 200000 in
theorem round1_in (n : Nat) (l B0 B1 b N : Nat) (hN : N ≤ 1024) (J Jx : List (Fin N) → World → Prop)
    (hY : ∀ pre (x : Fin N) W, J pre W → pre.length < N → YieldAt Fence.wide (n - 1) Tryz.prog l #[.int .i64 x.val] W fun e W' =>
      (e = .returned (.bool true) ∧ J (pre ++ [x]) W' ∧ KeepB [B0, B1, b] W W') ∨ (e = .returned (.bool false) ∧ Jx (pre ++ [x]) W'))
    (W : World) (hc0 : W.cell? ⟨B0, 0, none⟩ = some (.pointer (some ⟨b, 0, none⟩))) (hc1 : W.cell? ⟨B1, 0, none⟩ = some (.int .i64 0)) (hcn : W.cell? ⟨b, 1, none⟩ = some (.int .i64 N)) (h0 : J [] W) (hJd : ∀ pre W, J pre W → J pre W.drew) :
    CallsIn Fence.wide n Tryz.prog 192 #[.func (.yield l) #[] #[], .pointer (some ⟨B0, 0, none⟩), .pointer (some ⟨B1, 0, none⟩)] W fun e W' => (∃ v, e = .returned v) ∧
      ((∃ ys, ys = List.finRange N ∧ J ys W') ∨ (∃ pre, pre <+: List.finRange N ∧ Jx pre W')) := by
  refine callsIn_of_wp Tryz.func192 rfl trivial ?_ rfl
  simp only [Tryz.ntmps192, List.size_toArray, List.length_cons, List.length_nil, Nat.reduceAdd, Nat.reduceSub, Array.replicate_succ, Array.replicate_zero, List.push_toArray, List.append_toArray, List.nil_append, List.cons_append]
  gi_wp2
  gi_loopw [9] (fun p wr => ∃ k : Nat, p = .int .i64 k ∧ k ≤ N ∧ J (upTo N k) wr ∧ wr.cell? ⟨B0, 0, none⟩ = some (.pointer (some ⟨b, 0, none⟩)) ∧ wr.cell? ⟨B1, 0, none⟩ = some (.int .i64 0) ∧ wr.cell? ⟨b, 1, none⟩ = some (.int .i64 N))
    (fun p wr => N - (intOf p).toNat)
  case atStart =>
    exact ⟨0, rfl, Nat.zero_le _, h0, hc0, hc1, hcn⟩
  case round =>
    obtain ⟨k, rfl, hk, hJ, h0, h1, h2⟩ := hrel
    by_cases hkN : k < N
    · obtain ⟨fn, tmps, assign, body, hy, hR⟩ := hY (upTo N k) ⟨k, hkN⟩ wr.drew (hJd _ _ hJ) (by rw [upTo_length hk]; exact hkN)
      have hmx : Tryz.prog.follows .mixedOrders = true := by kernel_rfl
      have HR := Lib.hid hR
      have HY := Lib.hid hy
      clear hY hR hy
      gi_wp2
      refine wide_still_tail 9 hmx (by kernel_rfl) ?_
      simp only [List.take_succ_cons, List.take_zero, List.drop_succ_cons, List.drop_zero]
      have hw1 : IntKind.i64.wrap (k : Int) = k := IntWalk.i64_in _ (by omega)
      have hw2 : ((N : Int) == 0) = false := by simp; omega
      have hw3 : ¬ ((N : Int) = 0) := by omega
      have hw5 : ¬ N = 0 := by omega
      have hw4 : Int.tmod (k : Int) N = k := Int.tmod_eq_of_lt (by omega) (by omega)
      repeat still_step
      try refine wpStill_nil ?_
      change wpListIn _ _ _ _ _ _ _ wr.drew
      clear hw1 hw2 hw3 hw4 hw5
      have hy := HY.out
      have hR := HR.out
      clear HY HR
      gi_wp2
      refine ⟨fun h => by simp [Fence.wide] at h, hR.mono ?_⟩
      clear hR hy
      rintro e W' (⟨rfl, hJ', hk'⟩ | ⟨rfl, hJx'⟩)
      · gi_wp2
        go_roundw
        case rel =>
          have hk2 : KeepB [B0, B1, b] wr W' := hk'
          exact ⟨k + 1, rfl, by omega, by rw [upTo_succ hkN]; exact hJ', (hk2.cell (k := B0) (o := 0) (by simp)).trans h0, (hk2.cell (k := B1) (o := 0) (by simp)).trans h1, (hk2.cell (k := b) (o := 1) (by simp)).trans h2⟩
        case measure => show N - ((k : Int) + 1).toNat < N - (k : Int).toNat; omega
      · gi_wp2
        refine bodyPost_ret (results_none rfl _ _ _) rfl ?_
        exact ⟨⟨_, rfl⟩, .inr ⟨upTo N k ++ [⟨k, hkN⟩], by rw [← upTo_succ hkN]; exact List.take_prefix _ _, hJx'⟩⟩
    · obtain rfl : k = N := by omega
      gi_wp2
      go_end0
      exact ⟨⟨_, rfl⟩, .inl ⟨_, upTo_all _, hJ⟩⟩

theorem round_any (b : Nat) (w : World) :
    Calls Tryz.prog 136 #[.pointer (some ⟨b, 0, none⟩), .int .i64 0] w fun e w' => e = .returned (.func (.func 192) #[] #[.pointer (some ⟨w.heap.size, 0, none⟩), .pointer (some ⟨w.heap.size + 1, 0, none⟩)])
      ∧ w' = (w.alloc (.cells #[.pointer (some ⟨b, 0, none⟩)] 135)).alloc (.cells #[.int .i64 0] 3) := by
  go_enter Tryz.func136, Tryz.ntmps136
  go_wp2_with fail
  go_ret
  exact ⟨rfl, rfl⟩

theorem round_stops (n : Nat) (B0 B1 b N : Nat) (w : World) (hN : N ≤ 1024) (hb : b < w.heap.size) (hB0 : B0 < w.heap.size) (hB1 : B1 < w.heap.size)
    (hc0 : w.cell? ⟨B0, 0, none⟩ = some (.pointer (some ⟨b, 0, none⟩))) (hc1 : w.cell? ⟨B1, 0, none⟩ = some (.int .i64 0)) (hcn : w.cell? ⟨b, 1, none⟩ = some (.int .i64 N)) :
    SeqStopsK Fence.wide n Tryz.prog 192 #[.pointer (some ⟨B0, 0, none⟩), .pointer (some ⟨B1, 0, none⟩)] (fun x : Fin N => #[Value.int .i64 x.val]) (KeepB [B0, B1, b]) (fun ys => ys = List.finRange N) (fun pre => pre <+: List.finRange N) N w := fun l J Jx W hW hJ _ hY h0 =>
  round1_in n l B0 B1 b N hN J Jx hY W ((hW.cell (p := ⟨B0, 0, none⟩) (by simpa using ‹_›)).trans hc0) ((hW.cell (p := ⟨B1, 0, none⟩) (by simpa using ‹_›)).trans hc1) ((hW.cell (p := ⟨b, 1, none⟩) (by simpa using ‹_›)).trans hcn) h0
    (fun pre W h => hJ pre W W.drew none h ⟨rfl, rfl, rfl, Nat.le_refl _, fun _ _ _ => rfl⟩ (fun r e => by cases e))

theorem BitsAt.below {w w' : World} {b bb n : Nat} {l : List UInt8} {n₀ : Nat} (h : BitsAt w b bb l n) (hk : Below n₀ w w') (h1 : b < n₀) (h2 : bb < n₀) : BitsAt w' b bb l n :=
  ⟨(hk.block b h1).trans h.h1, (hk.block bb h2).trans h.h2, h.len, h.lo, h.hi⟩
theorem BitsAt.lt1 {w : World} {b bb n : Nat} {l : List UInt8} (h : BitsAt w b bb l n) : b < w.heap.size := heap_lt h.h1
theorem BitsAt.lt2 {w : World} {b bb n : Nat} {l : List UInt8} (h : BitsAt w b bb l n) : bb < w.heap.size := heap_lt h.h2
theorem drewN_own (W : World) (m : Nat) (row : Option Nat) : W.grownBy (W.drewN m) row := ⟨rfl, rfl, rfl, Nat.le_refl _, fun _ _ _ => rfl⟩
theorem under_row {W : World} {base B : Nat} {e : TypeId} {size k : Nat} {v : Value} {xs : List Value} (hr : W.ownsRow base e size v k xs) (hB : B < base) : some B ≠ v.ownBlock := by
  rcases hr.2 with ⟨rfl, _⟩ | ⟨g, cap, cur, rfl, hb, _, _⟩
  · simp [Value.ownBlock]
  · intro e'
    obtain rfl : B = g := by simpa [Value.ownBlock] using e'
    exact absurd hb (by omega)
theorem row_others {W w1 : World} {base size k : Nat} {e : TypeId} {v : Value} {xs : List Value} {tmp : Obj} (hrow : W.ownsRow base e size v k xs) (hgrow : (W.alloc tmp).grownBy w1 v.ownBlock) : KeepsOthers W w1 :=
  (KeepsOthers.alloc W tmp).trans (KeepsOthers.of_grownBy hgrow fun j o ej hj => by
    rcases (hrow.alloc tmp).2 with ⟨rfl, _⟩ | ⟨g, cap, cur, rfl, _, hgb, _⟩
    · simp [Value.ownBlock] at ej
    · obtain rfl : g = j := by simpa [Value.ownBlock] using ej
      rw [hgb] at hj; cases hj; rfl)
theorem row_below {W w1 : World} {base n₀ size k : Nat} {e : TypeId} {v : Value} {xs : List Value} {tmp : Obj} (hrow : W.ownsRow base e size v k xs) (hgrow : (W.alloc tmp).grownBy w1 v.ownBlock) (hn : n₀ ≤ base) (hs : n₀ ≤ W.heap.size) : Below n₀ W w1 :=
  ((Below.refl n₀ W).alloc hs tmp).grown hgrow (by simp; omega) fun j ej => by
    rcases hrow.2 with ⟨rfl, _⟩ | ⟨g, cap, cur, rfl, hb, _, _⟩
    · simp [Value.ownBlock] at ej
    · obtain rfl : g = j := by simpa [Value.ownBlock] using ej
      omega
theorem ownsRow_base {W : World} {base base' size k : Nat} {e : TypeId} {v : Value} {xs : List Value} (hr : W.ownsRow base e size v k xs) (h : base' ≤ base) : W.ownsRow base' e size v k xs := by
  refine ⟨hr.1, hr.2.imp id ?_⟩
  rintro ⟨g, cap, cur, h1, h2, h3⟩
  exact ⟨g, cap, cur, h1, Nat.le_trans h h2, h3⟩
theorem ownsRow_drewN {W : World} {base size k : Nat} {e : TypeId} {v : Value} {xs : List Value} (hr : W.ownsRow base e size v k xs) (m : Nat) : (W.drewN m).ownsRow base e size v k xs := by
  refine hr.kept (drewN_own W m none) ?_
  rcases hr.2 with ⟨rfl, _⟩ | ⟨g, cap, cur, rfl, _⟩
  · exact .inl rfl
  · exact .inr (by simp [Value.ownBlock])
theorem below_drewN (n₀ : Nat) (W : World) (m : Nat) : Below n₀ W (W.drewN m) := ⟨rfl, rfl, rfl, Nat.le_refl _, fun _ _ => rfl⟩
theorem infoInt : (Tryz.prog.info? 3).map (fun i => (i.zero, i.size, i.bytes)) = some (some (.int .i64 0), 1, 8) := by kernel_rfl

def takenOf {N : Nat} (l : List UInt8) (pre : List (Fin N)) : List (Fin N) := pre.filter fun x => tk l x.val
theorem takenOf_hit {N : Nat} {l : List UInt8} (pre : List (Fin N)) {x : Fin N} (h : tk l x.val = true) : takenOf l (pre ++ [x]) = takenOf l pre ++ [x] := by simp [takenOf, h]
theorem takenOf_miss {N : Nat} {l : List UInt8} (pre : List (Fin N)) {x : Fin N} (h : tk l x.val = false) : takenOf l (pre ++ [x]) = takenOf l pre := by simp [takenOf, h]
def intCell {N : Nat} (x : Fin N) : Value := .int .i64 x.val

set_option maxRecDepth 100000 in
set_option maxHeartbeats 2000000 in
theorem taken_any (b bb : Nat) (l : List UInt8) (N : Nat) (w : World) (h : BitsAt w b bb l N) :
    Calls Tryz.prog 90 #[.pointer (some ⟨b, 0, none⟩)] w fun e w' => ∃ v, e = .returned v ∧ w'.ownsRow w.heap.size 3 1 v (takenOf l (List.finRange N)).length ((takenOf l (List.finRange N)).map intCell) ∧ Below w.heap.size w w' := by
  have hN := h.hi
  obtain ⟨i0, hi, hz0, hz1, hz2⟩ := info_parts infoInt
  refine (callsIn_wide (n := 6)).1 ?_
  refine callsIn_of_wp_marks Tryz.func90 rfl trivial ?_ rfl
  simp only [Tryz.ntmps90, List.size_toArray, List.length_cons, List.length_nil, Nat.reduceAdd, Nat.reduceSub, Array.replicate_succ, Array.replicate_zero, List.push_toArray, List.append_toArray, List.nil_append, List.cons_append]
  gi_wp2_with (refine ⟨trivial, ?_⟩; gi_at_call 136; refine (callsIn_wide.2 (round_any _ _)).mono ?_; rintro e w' ⟨rfl, rfl⟩)
  generalize hW : World.alloc (World.alloc (World.alloc (World.alloc w _) _) _) _ = W0
  have hsz : W0.heap.size = w.heap.size + 4 := by rw [← hW]; simp
  have b0 : Boxed W0 w.heap.size 135 (.pointer (some ⟨b, 0, none⟩)) := by rw [← hW]; exact (((Boxed.new w _ _).alloc _).alloc _).alloc _
  have b1 : Boxed W0 (w.heap.size + 1) 80 (.slice none 0 0) := by
    rw [← hW]; have := ((Boxed.new (w.alloc (.cells #[.pointer (some ⟨b, 0, none⟩)] 135)) 80 (.slice none 0 0)).alloc (.cells #[.pointer (some ⟨b, 0, none⟩)] 135)).alloc (.cells #[.int .i64 0] 3); rwa [World.size_alloc] at this
  have b2 : Boxed W0 (w.heap.size + 1 + 1) 135 (.pointer (some ⟨b, 0, none⟩)) := by
    rw [← hW]; have := (Boxed.new ((w.alloc (.cells #[.pointer (some ⟨b, 0, none⟩)] 135)).alloc (.cells #[.slice none 0 0] 80)) 135 (.pointer (some ⟨b, 0, none⟩))).alloc (.cells #[.int .i64 0] 3); rwa [World.size_alloc, World.size_alloc] at this
  have b3 : Boxed W0 (w.heap.size + 1 + 1 + 1) 3 (.int .i64 0) := by
    rw [← hW]; have := Boxed.new (((w.alloc (.cells #[.pointer (some ⟨b, 0, none⟩)] 135)).alloc (.cells #[.slice none 0 0] 80)).alloc (.cells #[.pointer (some ⟨b, 0, none⟩)] 135)) 3 (.int .i64 0); rwa [World.size_alloc, World.size_alloc, World.size_alloc] at this
  have hB0 : Below w.heap.size w W0 := by
    rw [← hW]; exact ((((Below.refl _ w).alloc (Nat.le_refl _) _).alloc (by simp) _).alloc (by simp; omega) _).alloc (by simp; omega) _
  clear hW
  have hl1 := h.lt1
  have hl2 := h.lt2
  have hcn : W0.cell? ⟨b, 1, none⟩ = some (.int .i64 N) := cell_of_heap (o := 1) (h.below hB0 hl1 hl2).h1
  refine wpIn_rangeFunc_ownG rfl (by omega) (gf := 192) (lb := #[.pointer (some ⟨w.heap.size + 1 + 1, 0, none⟩), .pointer (some ⟨w.heap.size + 1 + 1 + 1, 0, none⟩)]) rfl trivial (enters_of Tryz.func192 (by kernel_rfl) rfl)
    (round_stops (6 - 1) _ _ b N _ hN (by omega) (by omega) (by omega) b2.cell b3.cell hcn) KeepB.trans (KeepB.putObj (n := W0.heap.size) (by simp; omega)) (Below.refl _ _) (fun _ => rfl)
    (fun pre W => (∃ v, Boxed W (w.heap.size + 1) 80 v ∧ W.ownsRow (w.heap.size + 4) 3 1 v (takenOf l pre).length ((takenOf l pre).map intCell) ∧ True) ∧ (Below w.heap.size w W ∧ (Boxed W w.heap.size 135 (.pointer (some ⟨b, 0, none⟩)) ∧ Boxed W (w.heap.size + 1 + 1) 135 (.pointer (some ⟨b, 0, none⟩)) ∧ Boxed W (w.heap.size + 1 + 1 + 1) 3 (.int .i64 0))))
    (fun _ _ _ => False)
    ?hI (fun _ _ _ _ _ hs _ _ => hs) ⟨⟨_, b1, World.ownsRow_nil _ _ _ _, trivial⟩, hB0, b0, b2, b3⟩
    (fun x => { tmps := #[.pointer (some ⟨b, 0, none⟩), .pointer (some ⟨w.heap.size, 0, none⟩), .slice none 0 0, .pointer (some ⟨w.heap.size + 1, 0, none⟩), .int .i64 x.val, .pointer (some ⟨b, 0, none⟩), .func (.func 192) #[] #[.pointer (some ⟨w.heap.size + 1 + 1, 0, none⟩), .pointer (some ⟨w.heap.size + 1 + 1 + 1, 0, none⟩)], .int .i64 x.val, undef, undef, undef, undef, undef, undef, undef, undef], defers := [] }) ?assign ?body ?done ?stop
  case hI =>
    exact OwnFrom.and (Own.from (holdsRow_own (w.heap.size + 4) (w.heap.size + 1) 80 3 1 (fun pre => (takenOf l pre).length) (fun pre => (takenOf l pre).map intCell) (fun pre v => True)) _)
      (OwnFrom.and (ownFrom_below (Nat.le_refl _) (by omega)) (OwnFrom.and (Own.from (boxed_own _ _ _) _) (OwnFrom.and (Own.from (boxed_own _ _ _) _) (Own.from (boxed_own _ _ _) _))))
  case assign =>
    intro l x W K hK
    gi_wp2
    exact hK
  case body =>
    rintro l' pre x W ⟨⟨v, hv, hrow, -⟩, hB, k0, k2, k3⟩ hlt
    have hc := hv.cell
    have hf := hv.frozen
    have hc0 := k0.cell
    have hpl : (takenOf l pre).length ≤ pre.length := List.length_filter_le _ _
    have hsW : w.heap.size + 4 ≤ W.heap.size := by have := k3.lt; omega
    have his := is_any b bb l N x.val W (h.below hB hl1 hl2)
    have hx1 : (decide ((0 : Int) ≤ (x.val : Int)) && decide ((x.val : Int) < (N : Int)) && tk l (x.val : Int).toNat) = tk l x.val := by
      have := x.isLt; simp
    rw [hx1] at his
    clear hx1
    cases htk : tk l x.val
    · rw [htk] at his
      have HIS := Lib.hid his
      clear his
      gi_wp2_with (refine ⟨trivial, ?_⟩; gi_at_call 137; refine (CallsIn.inRound l' (callsIn_wide.2 HIS.out)).mono ?_; rintro e w' ⟨rfl, m, rfl⟩)
      exact ⟨KeepsFrom.of_grownBy (drewN_own W m none) (fun j e => by cases e), fun k hk => rfl, ⟨v, hv, by rw [takenOf_miss pre htk]; exact ownsRow_drewN hrow m, trivial⟩, hB.trans (below_drewN _ _ m), k0, k2, k3⟩
    · rw [htk] at his
      have HIS := Lib.hid his
      clear his
      have HF : ∀ W1 : World, (∃ m, W1 = W.drewN m) → Boxed W1 (w.heap.size + 1) 80 v ∧ W1.ownsRow (w.heap.size + 4) 3 1 v (takenOf l pre).length ((takenOf l pre).map intCell) ∧ w.heap.size + 4 ≤ W1.heap.size ∧
          KeepsFrom W0.heap.size W W1 ∧ Below (w.heap.size + 4) W W1 ∧ KeepB [w.heap.size + 1 + 1, w.heap.size + 1 + 1 + 1, b] W W1 ∧ Boxed W1 w.heap.size 135 (.pointer (some ⟨b, 0, none⟩)) ∧ Boxed W1 (w.heap.size + 1 + 1) 135 (.pointer (some ⟨b, 0, none⟩)) ∧ Boxed W1 (w.heap.size + 1 + 1 + 1) 3 (.int .i64 0) := by
        rintro W1 ⟨m, rfl⟩
        exact ⟨hv, ownsRow_drewN hrow m, hsW, KeepsFrom.of_grownBy (drewN_own W m none) (fun j e => by cases e), below_drewN _ _ m, fun k hk => rfl, k0, k2, k3⟩
      have hml : 2000 ≤ maxLen := by decide
      clear hc hf hv hrow
      gi_wp2_with (first
        | (refine ⟨trivial, ?_⟩; gi_at_call 137; refine (CallsIn.inRound l' (callsIn_wide.2 HIS.out)).mono ?_; rintro e W1 ⟨rfl, hm⟩; obtain ⟨hv1, hr1, hs1, hko, hbo, hkb, k10, k12, k13⟩ := HF W1 hm; have hcv := hv1.cell)
        | (gi_at_builtin; refine wpListIn_append_own _ rfl _ _ 80 rfl (w.heap.size + 4) 3 i0 (.int .i64 0) 1 8 Tryz.underlying80 hi hz0 hz1 hz2 rfl (by decide) _ _ _ rfl (hr1.alloc _) ⟨W1.heap.size, 0, none⟩ 1 1 [.int .i64 x.val] rfl rfl (cell_one_new _ _ _) (by simp [Value.oneCell']) (by omega) (by omega) (by simp; omega) ?_; intro v' w1 hown' hgrow _; obtain ⟨g', cap', rfl⟩ := ownsRow_succ hown'; have hg : (W1.alloc (.cells #[.int .i64 x.val] 3)).grownBy w1 v.ownBlock := hgrow; have q1 := (hv1.alloc (.cells #[.int .i64 x.val] 3)).kept hg (under_row hr1 (by omega)); have q10 := (k10.alloc (.cells #[.int .i64 x.val] 3)).kept hg (under_row hr1 (by omega)); have q12 := (k12.alloc (.cells #[.int .i64 x.val] 3)).kept hg (under_row hr1 (by omega)); have q13 := (k13.alloc (.cells #[.int .i64 x.val] 3)).kept hg (under_row hr1 (by omega)); have hc9 := q1.cell; have hf9 := q1.frozen; have hb1 := row_below (n₀ := w.heap.size + 4) hr1 hg (Nat.le_refl _) hs1; have ho1 := row_others hr1 hg; clear hgrow hg))
      have hst0 : Below (w.heap.size + 1) W w1 := Below.trans (Below.mono hbo (by omega)) (Below.mono hb1 (by omega))
      have hst : Below (w.heap.size + 1) W (w1.setCell ⟨w.heap.size + 1, 0, none⟩ (.slice (some ⟨g', 0, none⟩) ((takenOf l pre).length + 1) cap')) :=
        hst0.setCell (p := ⟨w.heap.size + 1, 0, none⟩) (Nat.le_refl _) _
      refine ⟨(hko.trans (ho1.from _)).trans ((KeepsOthers.setCell _ _ _).from _), ?_, ⟨_, q1.set _, ?_, trivial⟩, hB.trans (hst.mono (by omega)), ?_, ?_, ?_⟩
      · intro k hk
        simp only [List.mem_cons, List.mem_nil_iff, or_false, List.not_mem_nil] at hk
        rcases hk with rfl | rfl | rfl
        · exact (q12.other (B' := w.heap.size + 1) (by omega) _).trans k2.symm
        · exact (q13.other (B' := w.heap.size + 1) (by omega) _).trans k3.symm
        · exact hst.block _ (by omega)
      · rw [takenOf_hit pre htk]
        have := hown'.kept (grownBy_setCell' w1 (w.heap.size + 1) (.slice (some ⟨g', 0, none⟩) ((takenOf l pre).length + 1) cap')) (.inr (Ne.symm (under_row hown' (by omega))))
        simpa [intCell] using this
      · exact q10.other (by omega) _
      · exact q12.other (by omega) _
      · exact q13.other (by omega) _
  case done =>
    rintro D ys W hD rfl ⟨⟨v, hv, hrow, -⟩, hB, -⟩ hK
    have hc := hv.cell
    gi_wp2
    refine ⟨by simp, .inl ⟨_, _, rfl, run_takeDeferred hK, ?_⟩⟩
    exact ⟨_, results_tmp rfl _ _ _, v, rfl, ownsRow_base (ownsRow_putObj hrow _ hK rfl) (by omega), hB.trans (belowK_b (w := w) (Nat.le_refl _) W D _ _ (by omega) hK rfl rfl)⟩
  case stop =>
    rintro D c pre W _ _ h _
    exact h.elim
end Go.Proofs.YtabngdpijbpgeaaGreat
