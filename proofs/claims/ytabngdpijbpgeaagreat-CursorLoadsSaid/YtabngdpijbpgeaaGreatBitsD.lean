/- Package bits: Take, Free, Len, New. -/
import Derived.Test.YtabngdpijbpgeaaGreatBitsC
set_option linter.unusedVariables false
set_option linter.unusedSimpArgs false
namespace Go.Proofs.YtabngdpijbpgeaaGreat
open Go Go.RowKit Go.Shelf
attribute [local go_sem] Oper.semAt_some

/-- The first page that is free. -/
def firstFree (l : List UInt8) (n : Nat) : Option Nat := (List.range n).find? fun i => !tk l i
def freeOf (l : List UInt8) (n : Nat) : Nat := ((List.range n).filter fun i => !tk l i).length

theorem ownFrom_stable {β : Type} {B : Nat} {I : β → World → Prop} (h : ∀ s W W', Below B W W' → B ≤ W.heap.size → I s W → I s W') : OwnFrom B (fun s W => B ≤ W.heap.size ∧ I s W) := by
  rintro s W W' row ⟨hB, hs⟩ hg hr
  have hb : Below B W W' := ⟨hg.os, hg.tape, hg.output, hg.size, fun k hk => hg.block k (by omega) (fun e => by have := (hr k e.symm).1; omega)⟩
  exact ⟨Nat.le_trans hB hg.size, h s W W' hb hB hs⟩

theorem Boxed.keep {W W' : World} {B n : Nat} {t : TypeId} {v : Value} (h : Boxed W B t v) (hb : Below n W W') (hB : B < n) : Boxed W' B t v := (hb.block B hB).trans h

theorem Boxed.new' {W : World} {n : Nat} {t : TypeId} {v : Value} (h : W.heap.size = n) : Boxed (W.alloc (.cells #[v] t)) n t v := h ▸ Boxed.new W t v
theorem Mods.then_below {S : Nat → Prop} {a b c : World} {n : Nat} (h : Mods S a b) (hb : Below n b c) (hn : a.heap.size ≤ n) : Mods S a c :=
  ⟨hb.os.trans h.os, hb.tape.trans h.tape, hb.output.trans h.output, Nat.le_trans h.size hb.size, fun i hi hs => (hb.block i (by omega)).trans (h.block i hi hs)⟩
theorem KeepsFrom.of_mods {S : Nat → Prop} {B : Nat} {W W' : World} (h : Mods S W W') (hS : ∀ k, B ≤ k → ¬ S k) : KeepsFrom B W W' :=
  ⟨h.size, fun k o hB hk _ => (h.block k (heap_lt hk) (hS k hB)).trans hk⟩
theorem Boxed.mods {W W' : World} {S : Nat → Prop} {B : Nat} {t : TypeId} {v : Value} (h : Boxed W B t v) (hm : Mods S W W') (hB : ¬ S B) : Boxed W' B t v := hm.heap h hB
theorem BitsAt.mods {w w' : World} {S : Nat → Prop} {b bb n : Nat} {l : List UInt8} (h : BitsAt w b bb l n) (hm : Mods S w w') (h1 : ¬ S b) (h2 : ¬ S bb) : BitsAt w' b bb l n := ⟨hm.heap h.h1 h1, hm.heap h.h2 h2, h.len, h.lo, h.hi⟩

set_option maxRecDepth 100000 in
set_option maxHeartbeats 2000000 in
theorem take_raw (b bb : Nat) (l : List UInt8) (N : Nat) (w : World) (h : BitsAt w b bb l N) :
    Calls Tryz.prog 131 #[.pointer (some ⟨b, 0, none⟩), .int .i64 0] w fun e w' =>
      ((∀ x : Fin N, tk l x.val = true) ∧ e = .returned (.tuple #[.int .i64 0, .int .i64 6]) ∧ Below w.heap.size w w') ∨
      (∃ x : Fin N, tk l x.val = false ∧ (∀ y : Fin N, y.val < x.val → tk l y.val = true) ∧ e = .returned (.tuple #[.int .i64 x.val, .int .i64 0]) ∧ BitsAt w' b bb (setBit l x.val) N ∧ Mods (· = bb) w w') := by
  have hN := h.hi
  have hN1 := h.lo
  have hl1 := h.lt1
  have hl2 := h.lt2
  have hh := has_any b bb l N 0
  refine (callsIn_wide (n := 6)).1 ?_
  refine callsIn_of_wp_marks Tryz.func131 rfl trivial ?_ rfl
  simp only [Tryz.ntmps131, List.size_toArray, List.length_cons, List.length_nil, Nat.reduceAdd, Nat.reduceSub, Array.replicate_succ, Array.replicate_zero, List.push_toArray, List.append_toArray, List.nil_append, List.cons_append]
  have hd : (decide ((0 : Int) ≤ 0) && decide ((0 : Int) < (N : Int))) = true := by simp; omega
  have hhas : ∀ W, Below w.heap.size w W → Calls Tryz.prog 179 #[.pointer (some ⟨b, 0, none⟩), .int .i64 0] W fun e w' => e = .returned (.bool true) ∧ W = w' := fun W hW =>
    (has_any b bb l N 0 W (h.below hW hl1 hl2)).mono fun e w' ⟨h1, h2⟩ => ⟨by rw [h1, hd], h2⟩
  have HH := Lib.hid hhas
  clear hhas hh hd
  gi_wp2_with (first
    | (refine ⟨trivial, ?_⟩; gi_at_call 179; refine (callsIn_wide.2 (HH.out _ ((((Below.refl _ w).alloc (Nat.le_refl _) _).alloc (by simp) _).alloc (by simp; omega) _))).mono ?_; rintro e w' ⟨rfl, rfl⟩)
    | (refine ⟨trivial, ?_⟩; gi_at_call 136; refine (callsIn_wide.2 (round_any _ _)).mono ?_; rintro e w' ⟨rfl, rfl⟩))
  generalize hW : World.alloc (World.alloc (World.alloc (World.alloc (World.alloc w _) _) _) _) _ = W0
  have hsz : W0.heap.size = w.heap.size + 5 := by rw [← hW]; simp
  have b0 : Boxed W0 w.heap.size 135 (.pointer (some ⟨b, 0, none⟩)) := by rw [← hW]; exact ((((Boxed.new' rfl).alloc _).alloc _).alloc _).alloc _
  have b1 : Boxed W0 (w.heap.size + 1) 3 (.int .i64 0) := by rw [← hW]; exact (((Boxed.new' (by simp)).alloc _).alloc _).alloc _
  have b2 : Boxed W0 (w.heap.size + 1 + 1) 27 (.int .i64 0) := by rw [← hW]; exact ((Boxed.new' (by simp)).alloc _).alloc _
  have b3 : Boxed W0 (w.heap.size + 1 + 1 + 1) 135 (.pointer (some ⟨b, 0, none⟩)) := by rw [← hW]; exact (Boxed.new' (by simp)).alloc _
  have b4 : Boxed W0 (w.heap.size + 1 + 1 + 1 + 1) 3 (.int .i64 0) := by rw [← hW]; exact Boxed.new' (by simp)
  have hB0 : Below w.heap.size w W0 := by
    rw [← hW]; exact (((((Below.refl _ w).alloc (Nat.le_refl _) _).alloc (by simp) _).alloc (by simp; omega) _).alloc (by simp; omega) _).alloc (by simp; omega) _
  clear hW HH
  have hcn : W0.cell? ⟨b, 1, none⟩ = some (.int .i64 N) := cell_of_heap (o := 1) (h.below hB0 hl1 hl2).h1
  refine wpIn_rangeFunc_ownG rfl (by omega) (gf := 192) (lb := #[.pointer (some ⟨w.heap.size + 1 + 1 + 1, 0, none⟩), .pointer (some ⟨w.heap.size + 1 + 1 + 1 + 1, 0, none⟩)]) rfl trivial (enters_of Tryz.func192 (by kernel_rfl) rfl)
    (round_stops (6 - 1) _ _ b N _ hN (by omega) (by omega) (by omega) b3.cell b4.cell hcn) KeepB.trans (KeepB.putObj (n := W0.heap.size) (by simp; omega)) (Below.refl _ _) (fun _ => rfl)
    (fun pre W => W0.heap.size ≤ W.heap.size ∧ (∀ x ∈ pre, tk l x.val = true) ∧ Below W0.heap.size W0 W)
    (fun c pre W => W0.heap.size ≤ W.heap.size ∧ c = .ret ∧ ∃ pre' x, pre = pre' ++ [x] ∧ (∀ y ∈ pre', tk l y.val = true) ∧ tk l x.val = false ∧ BitsAt W b bb (setBit l x.val) N ∧ Mods (· = bb) w W ∧ Boxed W (w.heap.size + 1) 3 (.int .i64 x.val) ∧ Boxed W (w.heap.size + 1 + 1) 27 (.int .i64 0))
    ?hI ?hIx ⟨Nat.le_refl _, (fun _ hx => nomatch hx), Below.refl _ _⟩
    (fun x => { tmps := #[.pointer (some ⟨b, 0, none⟩), .int .i64 0, .pointer (some ⟨w.heap.size, 0, none⟩), undef, .pointer (some ⟨w.heap.size + 1, 0, none⟩), .pointer (some ⟨w.heap.size + 1 + 1, 0, none⟩), .int .i64 x.val, .pointer (some ⟨b, 0, none⟩), .int .i64 0, .bool true, .bool false,
      .pointer (some ⟨b, 0, none⟩), .int .i64 0, .func (.func 192) #[] #[.pointer (some ⟨w.heap.size + 1 + 1 + 1, 0, none⟩), .pointer (some ⟨w.heap.size + 1 + 1 + 1 + 1, 0, none⟩)], .int .i64 x.val, undef, undef, undef, undef, undef, undef, undef, undef], defers := [] }) ?assign ?body ?done ?stop
  case hI =>
    exact ownFrom_stable fun s W W' hb hB hs => ⟨hs.1, hs.2.trans hb⟩
  case hIx =>
    intro c
    refine ownFrom_stable fun s W W' hb hB hs => ?_
    obtain ⟨h0, pre', x, h1, h2, h3, h4, h5, h6, h7⟩ := hs
    refine ⟨h0, pre', x, h1, h2, h3, h4.below hb (by omega) (by omega), h5.then_below hb (by omega), Boxed.keep h6 hb (by omega), Boxed.keep h7 hb (by omega)⟩
  case assign =>
    intro l x W K hK
    gi_wp2
    exact hK
  case body =>
    rintro l' pre x W ⟨hs, hp, hB⟩ hlt
    have hBw : Below w.heap.size w W := hB0.trans (Below.mono hB (by omega))
    have hat : BitsAt W b bb l N := h.below hBw hl1 hl2
    have k0 : Boxed W w.heap.size 135 (.pointer (some ⟨b, 0, none⟩)) := Boxed.keep b0 hB (by omega)
    have k1 : Boxed W (w.heap.size + 1) 3 (.int .i64 0) := Boxed.keep b1 hB (by omega)
    have k2 : Boxed W (w.heap.size + 1 + 1) 27 (.int .i64 0) := Boxed.keep b2 hB (by omega)
    have hc0 := k0.cell
    have his := is_any b bb l N x.val W hat
    have hx1 : (decide ((0 : Int) ≤ (x.val : Int)) && decide ((x.val : Int) < (N : Int)) && tk l (x.val : Int).toNat) = tk l x.val := by
      have := x.isLt; simp
    rw [hx1] at his
    clear hx1
    cases htk : tk l x.val
    · rw [htk] at his
      have HIS := Lib.hid his
      have HT : ∀ m, CallsIn (Fence.wide.inRound l') 3 Tryz.prog 180 #[.pointer (some ⟨b, 0, none⟩), .int .i64 x.val] (W.drewN m) fun e w' => e = .returned (.int .i64 0) ∧ BitsAt w' b bb (setBit l x.val) N ∧ Mods (· = bb) (W.drewN m) w' := fun m =>
        CallsIn.inRound l' (callsIn_wide.2 (takeat_ok b bb l N x.val (W.drewN m) (hat.drewN m) x.isLt htk))
      have HT' := Lib.hid HT
      clear his HT
      gi_wp2_with (first
        | (refine ⟨trivial, ?_⟩; gi_at_call 137; refine (CallsIn.inRound l' (callsIn_wide.2 HIS.out)).mono ?_; rintro e w' ⟨rfl, m, rfl⟩)
        | (refine ⟨trivial, ?_⟩; gi_at_call 180; refine (HT'.out m).mono ?_; rintro e w1 ⟨rfl, ha1, hm1⟩; have q1 := Boxed.mods (W := W.drewN m) (W' := w1) k1 hm1 (show ¬ _ = bb by omega); have q2 := Boxed.mods (W := W.drewN m) (W' := w1) k2 hm1 (show ¬ _ = bb by omega); have c1 := q1.cell; have f1 := q1.frozen; have c2 := q2.cell; have f2 := q2.frozen; have q2' := Boxed.other q2 (B' := w.heap.size + 1) (by omega) (.int .i64 x.val); have c2' := q2'.cell; have f2' := q2'.frozen))
      have hWm : Mods (· = bb) w (W.drewN m) := (Mods.of_below hBw).trans (Mods.of_below (below_drewN _ _ m))
      have hms : Mods (· = bb) w ((w1.setCell ⟨w.heap.size + 1, 0, none⟩ (.int .i64 x.val)).setCell ⟨w.heap.size + 1 + 1, 0, none⟩ (.int .i64 0)) :=
        ((hWm.trans hm1).set (.inl (by simp)) _).set (.inl (by simp; omega)) _
      have hm2 : Mods (fun k => k = bb ∨ w.heap.size ≤ k ∧ k < W0.heap.size) W ((w1.setCell ⟨w.heap.size + 1, 0, none⟩ (.int .i64 x.val)).setCell ⟨w.heap.size + 1 + 1, 0, none⟩ (.int .i64 0)) :=
        ((((Mods.of_below (below_drewN _ W m)).trans (hm1.mono (fun _ _ e => .inl e)))).set (.inr (.inr ⟨by simp, by simp; omega⟩)) _).set (.inr (.inr ⟨by simp; omega, by simp; omega⟩)) _
      refine ⟨KeepsFrom.of_mods hm2 (fun k hk hS => by omega), Nat.le_trans hs hm2.size, rfl, pre, x, rfl, hp, htk, ?_, hms, ?_, ?_⟩
      · have e1 : b ≠ w.heap.size + 1 := by omega
        have e2 : bb ≠ w.heap.size + 1 := by omega
        have e3 : b ≠ w.heap.size + 1 + 1 := by omega
        have e4 : bb ≠ w.heap.size + 1 + 1 := by omega
        exact ⟨by rw [heap_setCell_ne e3, heap_setCell_ne e1]; exact ha1.h1, by rw [heap_setCell_ne e4, heap_setCell_ne e2]; exact ha1.h2, ha1.len, ha1.lo, ha1.hi⟩
      · exact Boxed.other (Boxed.set _ q1) (by omega) _
      · exact Boxed.set _ q2'
    · rw [htk] at his
      have HIS := Lib.hid his
      clear his
      gi_wp2_with (first
        | (refine ⟨trivial, ?_⟩; gi_at_call 137; refine (CallsIn.inRound l' (callsIn_wide.2 HIS.out)).mono ?_; rintro e w' ⟨rfl, m, rfl⟩))
      refine ⟨KeepsFrom.of_grownBy (drewN_own W m none) (fun j e => by cases e), fun k hk => rfl, hs, fun y hy => ?_, hB.trans (below_drewN _ _ m)⟩
      rcases List.mem_append.1 hy with hy | hy
      · exact hp y hy
      · simp at hy; subst hy; exact htk
  case done =>
    rintro D ys W hD rfl ⟨hs, hp, hB⟩ hK
    have k1 : Boxed W (w.heap.size + 1) 3 (.int .i64 0) := Boxed.keep b1 hB (by omega)
    have k2 : Boxed W (w.heap.size + 1 + 1) 27 (.int .i64 0) := Boxed.keep b2 hB (by omega)
    have c1 := k1.cell
    have f1 := k1.frozen
    have q2' := Boxed.other k2 (B' := w.heap.size + 1) (by omega) (.int .i64 0)
    have c2 := q2'.cell
    have f2 := q2'.frozen
    gi_wp2
    have z1 : Boxed ((W.setCell ⟨w.heap.size + 1, 0, none⟩ (.int .i64 0)).setCell ⟨w.heap.size + 1 + 1, 0, none⟩ (.int .i64 6)) (w.heap.size + 1) 3 (.int .i64 0) := Boxed.other (Boxed.set _ k1) (by omega) _
    have z2 : Boxed ((W.setCell ⟨w.heap.size + 1, 0, none⟩ (.int .i64 0)).setCell ⟨w.heap.size + 1 + 1, 0, none⟩ (.int .i64 6)) (w.heap.size + 1 + 1) 27 (.int .i64 6) := Boxed.set _ q2'
    have hK' := ((KeepsOthers.setCell W ⟨w.heap.size + 1, 0, none⟩ (.int .i64 0)).trans (KeepsOthers.setCell _ ⟨w.heap.size + 1 + 1, 0, none⟩ (.int .i64 6))).same D _ hK rfl
    have hBe : Below w.heap.size w ((W.setCell ⟨w.heap.size + 1, 0, none⟩ (.int .i64 0)).setCell ⟨w.heap.size + 1 + 1, 0, none⟩ (.int .i64 6)) :=
      ((hB0.trans (Below.mono hB (by omega))).setCell (p := ⟨w.heap.size + 1, 0, none⟩) (by simp) _).setCell (p := ⟨w.heap.size + 1 + 1, 0, none⟩) (by simp; omega) _
    generalize World.setCell (World.setCell W _ _) _ _ = WE at *
    refine ⟨by simp, .inl ⟨_, _, rfl, run_takeDeferred hK', ?_⟩⟩
    have y1 := cell_kept z1.cell (grownBy_putObj' _ D (.deferred none)) (fun r e => by cases e; exact ⟨_, hK', rfl⟩)
    have y2 := cell_kept z2.cell (grownBy_putObj' _ D (.deferred none)) (fun r e => by cases e; exact ⟨_, hK', rfl⟩)
    refine ⟨.tuple #[.int .i64 0, .int .i64 6], ?_, .inl ⟨fun x => hp x (List.mem_finRange x), rfl, hBe.trans (belowK_b (w := w) (Nat.le_refl _) _ D _ _ (by omega) hK' rfl rfl)⟩⟩
    simp [results, Tryz.f131, go_sem, y1, y2]
  case stop =>
    rintro D c pre W hD hpre ⟨hs, rfl, pre', x, rfl, h2, h3, h4, h5, h6, h7⟩ hK
    gi_wp2
    refine ⟨by simp, .inl ⟨_, _, rfl, run_takeDeferred hK, ?_⟩⟩
    have y1 := cell_kept h6.cell (grownBy_putObj' _ D (.deferred none)) (fun r e => by cases e; exact ⟨_, hK, rfl⟩)
    have y2 := cell_kept h7.cell (grownBy_putObj' _ D (.deferred none)) (fun r e => by cases e; exact ⟨_, hK, rfl⟩)
    have hbk : Below W0.heap.size W (W.putObj D (.deferred none)) := belowK_b (w := W0) (Nat.le_refl _) _ D _ _ hD hK rfl rfl
    refine ⟨.tuple #[.int .i64 x.val, .int .i64 0], ?_, .inr ⟨x, h3, fun y hy => h2 y ?_, rfl, h4.below hbk (by omega) (by omega), h5.then_below hbk (by omega)⟩⟩
    · simp [results, Tryz.f131, go_sem, y1, y2]
    · obtain ⟨tl, htl⟩ := hpre
      have hx := congrArg (fun (z : List (Fin N)) => z[pre'.length]?) htl
      have hplt : pre'.length < N := by have := congrArg List.length htl; simp at this; omega
      have hxv : x.val = pre'.length := by simp [hplt] at hx; rw [hx]
      have hyx := congrArg (fun (z : List (Fin N)) => z[y.val]?) htl
      have hyl : y.val < pre'.length := by omega
      simp [List.getElem?_append_left, hyl, y.isLt] at hyx
      have := List.getElem_mem hyl
      rwa [hyx] at this

theorem len_any (b bb : Nat) (l : List UInt8) (N : Nat) (w : World) (h : BitsAt w b bb l N) :
    Calls Tryz.prog 98 #[.pointer (some ⟨b, 0, none⟩)] w fun e w' => e = .returned (.int .i64 N) ∧ w = w' := by
  have hc := cell_of_heap (o := 1) h.h1
  go_enter Tryz.func98, Tryz.ntmps98
  go_wp2_with fail
  go_ret
  exact ⟨rfl, rfl⟩

/-- How many are taken. -/
def cnt (l : List UInt8) (N : Nat) : Nat := (takenOf l (List.finRange N)).length
theorem cnt_le (l : List UInt8) (N : Nat) : cnt l N ≤ N := by
  have := List.length_filter_le (fun x : Fin N => tk l x.val) (List.finRange N)
  simpa [cnt, takenOf] using this

set_option maxRecDepth 100000 in
set_option maxHeartbeats 1000000 in
theorem free_any (b bb : Nat) (l : List UInt8) (N : Nat) (w : World) (h : BitsAt w b bb l N) :
    Calls Tryz.prog 89 #[.pointer (some ⟨b, 0, none⟩)] w fun e w' => e = .returned (.int .i64 (N - cnt l N : Nat)) ∧ Below w.heap.size w w' := by
  have hN := h.hi
  have hl1 := h.lt1
  have hl2 := h.lt2
  have hcl := cnt_le l N
  have hd : BitsAt w.drew b bb l N := h.drewN 1
  have hc := cell_of_heap (o := 1) hd.h1
  have ht : Calls Tryz.prog 90 #[.pointer (some ⟨b, 0, none⟩)] w.drew fun e w' => ∃ a cap, e = .returned (.slice a (cnt l N) cap) ∧ Below w.heap.size w.drew w' :=
    (taken_any b bb l N w.drew hd).mono fun e w' ⟨v, he, hown, hb⟩ => by
      rcases hown.2 with ⟨rfl, h0⟩ | ⟨g, cap, cur, rfl, _⟩
      · exact ⟨none, 0, by rw [he]; simp [cnt, h0], hb⟩
      · exact ⟨_, cap, he, hb⟩
  have HT := Lib.hid ht
  clear ht
  have hw1 : IntKind.i64.wrap ((N : Int) - (cnt l N : Int)) = (N : Int) - (cnt l N : Int) := IntWalk.i64_in _ (by omega)
  have hr : ((N - cnt l N : Nat) : Int) = (N : Int) - (cnt l N : Int) := by omega
  rw [hr]
  clear hr hd
  go_enter Tryz.func89, Tryz.ntmps89
  go_wp2_with fail
  go_region_with ((go_at_call 90; refine HT.out.mono ?_; rintro e w1 ⟨a1, cap1, rfl, hbl⟩; have hc1 := (hbl.cell (p := ⟨b, 1, none⟩) hl1).trans hc))
  all_goals go_wp2
  all_goals go_ret
  all_goals exact ⟨rfl, (below_drewN _ w 1).trans hbl⟩

set_option maxRecDepth 100000 in
set_option maxHeartbeats 1000000 in
theorem new_bits (n : Nat) (w : World) (h1 : 1 ≤ n) (h2 : n ≤ 1024) :
    Calls Tryz.prog 83 #[.int .i64 n] w fun e w' => ∃ b bb, e = .returned (.tuple #[.pointer (some ⟨b, 0, none⟩), .int .i64 0]) ∧ BitsAt w' b bb (List.replicate ((n + 7) / 8) 0) n ∧ w.heap.size ≤ b ∧ w.heap.size ≤ bb ∧ Below w.heap.size w w' := by
  obtain ⟨i, hi, hz, hsz, hby⟩ := info_parts (by kernel_rfl : (Tryz.prog.info? 5).map (fun i => (i.zero, i.size, i.bytes)) = some (some (.int .u8 0), 1, 1))
  have hd1 : ¬ ((n : Int) < 1) := by omega
  have hd2 : ¬ ((1024 : Int) < (n : Int)) := by omega
  have hw1 : IntKind.i64.wrap ((n : Int) + 8) = (n : Int) + 8 := IntWalk.i64_in _ (by omega)
  have hw2 : IntKind.i64.wrap ((n : Int) + 8 - 1) = (n : Int) + 8 - 1 := IntWalk.i64_in _ (by omega)
  have hml : 2000 ≤ maxLen := by decide
  have hmk := fun (w : World) => run_make (P := Tryz.prog) w 66 5 i _ Tryz.underlying66 hi hz .i64 .i64 (((n : Int) + 8 - 1) / 8) (((n : Int) + 8 - 1) / 8) (by omega) (by omega) (by rw [hby]; omega) (by omega)
  go_enter Tryz.func83, Tryz.ntmps83
  go_wp2_with fail
  go_ret2
  refine ⟨w.heap.size + 1, rfl, w.heap.size, ⟨?_, ?_, by simp, h1, h2⟩, by omega, by omega, ((Below.refl _ w).alloc (Nat.le_refl _) _).alloc (by simp) _⟩
  · rw [List.length_replicate]
    have := heap_alloc_new (w.alloc (Obj.cells (madeCells #[Value.int IntKind.u8 0] ((n + 7) / 8)) 5)) (Obj.cells #[Value.slice (some { block := w.heap.size, off := 0 }) ((n + 7) / 8) ((n + 7) / 8), Value.int IntKind.i64 n] 192)
    rw [World.size_alloc] at this
    exact this
  · have e1 : madeCells #[Value.int .u8 0] ((n + 7) / 8) = (byteCells (List.replicate ((n + 7) / 8) 0)).toArray := by
      apply Array.ext'
      rw [toList_madeCells_one, strOfZeros]
    rw [← e1]
    exact alloc_old (heap_alloc_new w _)
end Go.Proofs.YtabngdpijbpgeaaGreat
