/- cursor.Load: the cursor that bytes are. -/
import Derived.Test.YtabngdpijbpgeaaGreatCurB
set_option linter.unusedVariables false
set_option linter.unusedSimpArgs false
namespace Go.Proofs.YtabngdpijbpgeaaGreat
open Go Go.RowKit

/-- The text at a place, and its end. -/
def textAt (s : ByteArray) (p : Nat) : Option (ByteArray × Nat) :=
  if p < s.size ∧ p + 1 + lenAt s p ≤ s.size then some (s.extract (p + 1) (p + 1 + lenAt s p), p + 1 + lenAt s p) else none
theorem text_some {s x : ByteArray} {p q : Nat} (w : World) (hs : s.size ≤ big) (h : textAt s p = some (x, q)) :
    (∀ i : Int, i = p → Calls Tryz.prog 71 #[.string s, .int .i64 i] w fun e w' => e = .returned (.tuple #[.string x, .int .i64 q, .int .i64 0]) ∧ w = w') ∧ q ≤ s.size ∧ p < q ∧ x.size ≤ s.size := by
  unfold textAt at h
  split at h
  · rename_i hh
    injection h with h; injection h with h1 h2
    refine ⟨?_, by omega, by omega, by rw [← h1]; simp [ByteArray.size_extract]; omega⟩
    rintro i rfl
    rw [← h1, ← h2]
    exact ftext_ok s p w hs hh.1 hh.2
  · cases h
theorem text_none {s : ByteArray} {p : Nat} (w : World) (hs : s.size ≤ big) (h : textAt s p = none) :
    ∀ i : Int, i = p → Calls Tryz.prog 71 #[.string s, .int .i64 i] w fun e w' => ∃ k : Int, e = .returned (.tuple #[.string emptyS, .int .i64 0, .int .i64 k]) ∧ (k != 0) = true ∧ w = w' := by
  unfold textAt at h
  split at h
  · cases h
  · rename_i hh
    rintro i rfl
    refine (ftext_err s p w hs ?_).mono ?_
    · intro ⟨_, h1, h2⟩
      rw [Int.toNat_natCast] at h2
      exact hh ⟨by omega, by omega⟩
    · rintro e w' ⟨rfl, rfl⟩
      exact ⟨_, rfl, by unfold textE; split <;> rfl, rfl⟩

def loadT (s : ByteArray) : Option (ByteArray × ByteArray × ByteArray × Nat) :=
  match textAt s 1 with
  | none => none
  | some (a, i) => match textAt s i with
    | none => none
    | some (b, j) => match textAt s j with
      | none => none
      | some (d, k) => some (a, b, d, k)
def loadC (s : ByteArray) : Option (ByteArray × ByteArray × ByteArray) :=
  match loadT s with
  | none => none
  | some (a, b, d, _) => if saveB (cutB a) (cutB b) (cutB d) = s then some (cutB a, cutB b, cutB d) else none

/-- What Load tells. -/
def LoadPost (w : World) (o : Option (ByteArray × ByteArray × ByteArray)) (e : Ending) (w' : World) : Prop :=
  Below w.heap.size w w' ∧ match o with
    | none => e = .returned (.tuple #[.pointer none, .int .i64 4])
    | some (f, g, l) => ∃ c, e = .returned (.tuple #[.pointer (some ⟨c, 0, none⟩), .int .i64 0]) ∧ w.heap.size ≤ c ∧ CurAt w' c f g l

set_option maxRecDepth 100000 in
set_option maxHeartbeats 2000000 in
theorem load_any (s : ByteArray) (w : World) (hs : s.size ≤ big) : Calls Tryz.prog 28 #[.string s] w (LoadPost w (loadC s)) := by
  have hs2 : s.size ≤ 1048576 := hs
  have i0 : ∀ (x0 x1 x2 : Value) (w : World), (Instr.index 116 (.agg #[x0, x1, x2]) (.int .i64 0)).run Tryz.prog w = .ok x0 w := fun _ _ _ _ => by kernel_rfl
  have i1 : ∀ (x0 x1 x2 : Value) (w : World), (Instr.index 116 (.agg #[x0, x1, x2]) (.int .i64 1)).run Tryz.prog w = .ok x1 w := fun _ _ _ _ => by kernel_rfl
  have i2 : ∀ (x0 x1 x2 : Value) (w : World), (Instr.index 116 (.agg #[x0, x1, x2]) (.int .i64 2)).run Tryz.prog w = .ok x2 w := fun _ _ _ _ => by kernel_rfl
  obtain ⟨O, hO⟩ : ∃ O, O = loadC s := ⟨_, rfl⟩
  rw [← hO]
  have HO := Lib.hid hO
  clear hO
  have hne : ∀ W : World, w.heap.size ≤ W.heap.size → True := fun _ _ => trivial
  clear hne
  cases h1 : textAt s 1 with
  | none =>
    obtain rfl : O = none := by rw [HO.out]; simp [loadC, loadT, h1]
    have HT1 := Lib.hid (fun w => text_none w hs h1)
    clear h1
    go_enter Tryz.func28, Tryz.ntmps28
    go_wp2_with fail
    go_quiet (fail)
    go_wp2_with fail
    generalize hW : World.drewN _ _ = W
    obtain ⟨hb0, hlt0, hcur⟩ : Below w.heap.size w W ∧ w.heap.size < W.heap.size ∧ CurAt W w.heap.size emptyS emptyS emptyS := by
      rw [← hW]; exact ⟨((Below.refl _ _).alloc (Nat.le_refl _) _).trans (below_drewN _ _ _), by simp, heap_alloc_new w _⟩
    have hbox := boxR hcur
    have hfrz := frzR hcur
    have hb9 := Below.refl W.heap.size W
    have HCU := Lib.hid hcur
    clear hW hcur
    refine wp_loop_rounds 4 ?_
    rw [rounds_succ]
    go_wp2_with (go_at_call 71; refine (HT1.out _ _ rfl).mono ?_; rintro e w' ⟨k, rfl, hk, rfl⟩)
    go_ret2
    exact ⟨hb0, rfl⟩
  | some r1 =>
    obtain ⟨x1, p1⟩ := r1
    have hq1 := (text_some w hs h1).2
    have HT1 := Lib.hid (fun w => text_some w hs h1)
    obtain ⟨hq1a, hq1b, hq1c⟩ := hq1
    cases h2 : textAt s p1 with
    | none =>
      obtain rfl : O = none := by rw [HO.out]; simp [loadC, loadT, h1, h2]
      have HT2 := Lib.hid (fun w => text_none w hs h2)
      clear h1 h2
      go_enter Tryz.func28, Tryz.ntmps28
      go_wp2_with fail
      go_quiet (fail)
      go_wp2_with fail
      generalize hW : World.drewN _ _ = W
      obtain ⟨hb0, hlt0, hcur⟩ : Below w.heap.size w W ∧ w.heap.size < W.heap.size ∧ CurAt W w.heap.size emptyS emptyS emptyS := by
        rw [← hW]; exact ⟨((Below.refl _ _).alloc (Nat.le_refl _) _).trans (below_drewN _ _ _), by simp, heap_alloc_new w _⟩
      have hbox := boxR hcur
      have hfrz := frzR hcur
      have hb9 := Below.refl W.heap.size W
      have HCU := Lib.hid hcur
      clear hW hcur
      refine wp_loop_rounds 4 ?_
      rw [rounds_succ]
      go_wp2_with (first
        | (go_at_call 71; refine ((HT1.out _).1 _ rfl).mono ?_; rintro e w' ⟨rfl, rfl⟩)
        | (go_at_call 63; refine (cut_any _ _ (by omega)).mono ?_; rintro e w' ⟨rfl, rfl⟩))
      rw [rounds_succ]
      go_wp2_with (go_at_call 71; refine (HT2.out _ _ rfl).mono ?_; rintro e w' ⟨k, rfl, hk, rfl⟩)
      go_ret2
      exact ⟨(hb0.setCell (p := ⟨w.heap.size, 0, none⟩) (Nat.le_refl _) _), rfl⟩
    | some r2 =>
      obtain ⟨x2, p2⟩ := r2
      have hq2 := (text_some w hs h2).2
      have HT2 := Lib.hid (fun w => text_some w hs h2)
      obtain ⟨hq2a, hq2b, hq2c⟩ := hq2
      cases h3 : textAt s p2 with
      | none =>
        obtain rfl : O = none := by rw [HO.out]; simp [loadC, loadT, h1, h2, h3]
        have HT3 := Lib.hid (fun w => text_none w hs h3)
        clear h1 h2 h3
        go_enter Tryz.func28, Tryz.ntmps28
        go_wp2_with fail
        go_quiet (fail)
        go_wp2_with fail
        generalize hW : World.drewN _ _ = W
        obtain ⟨hb0, hlt0, hcur⟩ : Below w.heap.size w W ∧ w.heap.size < W.heap.size ∧ CurAt W w.heap.size emptyS emptyS emptyS := by
          rw [← hW]; exact ⟨((Below.refl _ _).alloc (Nat.le_refl _) _).trans (below_drewN _ _ _), by simp, heap_alloc_new w _⟩
        have hbox := boxR hcur
        have hfrz := frzR hcur
        have hb9 := Below.refl W.heap.size W
        have HCU := Lib.hid hcur
        clear hW hcur
        refine wp_loop_rounds 4 ?_
        rw [rounds_succ]
        go_wp2_with (first
          | (go_at_call 71; refine ((HT1.out _).1 _ rfl).mono ?_; rintro e w' ⟨rfl, rfl⟩)
          | (go_at_call 63; refine (cut_any _ _ (by omega)).mono ?_; rintro e w' ⟨rfl, rfl⟩))
        rw [rounds_succ]
        go_wp2_with (first
          | (go_at_call 71; refine ((HT2.out _).1 _ rfl).mono ?_; rintro e w' ⟨rfl, rfl⟩)
          | (go_at_call 63; refine (cut_any _ _ (by omega)).mono ?_; rintro e w' ⟨rfl, rfl⟩))
        rw [rounds_succ]
        go_wp2_with (go_at_call 71; refine (HT3.out _ _ rfl).mono ?_; rintro e w' ⟨k, rfl, hk, rfl⟩)
        go_ret2
        exact ⟨((hb0.setCell (p := ⟨w.heap.size, 0, none⟩) (Nat.le_refl _) _).setCell (p := ⟨w.heap.size, 1, none⟩) (Nat.le_refl _) _), rfl⟩
      | some r3 =>
        obtain ⟨x3, p3⟩ := r3
        have hq3 := (text_some w hs h3).2
        have HT3 := Lib.hid (fun w => text_some w hs h3)
        obtain ⟨hq3a, hq3b, hq3c⟩ := hq3
        have HO2 := Lib.hid (show O = if saveB (cutB x1) (cutB x2) (cutB x3) = s then some (cutB x1, cutB x2, cutB x3) else none by rw [HO.out]; simp [loadC, loadT, h1, h2, h3])
        clear h1 h2 h3
        go_enter Tryz.func28, Tryz.ntmps28
        go_wp2_with fail
        go_quiet (fail)
        go_wp2_with fail
        generalize hW : World.drewN _ _ = W
        obtain ⟨hb0, hlt0, hcur⟩ : Below w.heap.size w W ∧ w.heap.size < W.heap.size ∧ CurAt W w.heap.size emptyS emptyS emptyS := by
          rw [← hW]; exact ⟨((Below.refl _ _).alloc (Nat.le_refl _) _).trans (below_drewN _ _ _), by simp, heap_alloc_new w _⟩
        have hbox := boxR hcur
        have hfrz := frzR hcur
        have hb9 := Below.refl W.heap.size W
        have HCU := Lib.hid hcur
        clear hW hcur
        refine wp_loop_rounds 4 ?_
        rw [rounds_succ]
        go_wp2_with (first
          | (go_at_call 71; refine ((HT1.out _).1 _ rfl).mono ?_; rintro e w' ⟨rfl, rfl⟩)
          | (go_at_call 63; refine (cut_any _ _ (by omega)).mono ?_; rintro e w' ⟨rfl, rfl⟩))
        rw [rounds_succ]
        go_wp2_with (first
          | (go_at_call 71; refine ((HT2.out _).1 _ rfl).mono ?_; rintro e w' ⟨rfl, rfl⟩)
          | (go_at_call 63; refine (cut_any _ _ (by omega)).mono ?_; rintro e w' ⟨rfl, rfl⟩))
        rw [rounds_succ]
        go_wp2_with (first
          | (go_at_call 71; refine ((HT3.out _).1 _ rfl).mono ?_; rintro e w' ⟨rfl, rfl⟩)
          | (go_at_call 63; refine (cut_any _ _ (by omega)).mono ?_; rintro e w' ⟨rfl, rfl⟩))
        rw [rounds_succ]
        go_wp2_with fail
        have hcur2 : CurAt (((W.setCell ⟨w.heap.size, 0, none⟩ (.string (cutB x1))).setCell ⟨w.heap.size, 1, none⟩ (.string (cutB x2))).setCell ⟨w.heap.size, 2, none⟩ (.string (cutB x3))) w.heap.size (cutB x1) (cutB x2) (cutB x3) := by
          have := heap_setCell (i := 2) (heap_setCell (i := 1) (heap_setCell (i := 0) HCU.out (.string (cutB x1))) (.string (cutB x2))) (.string (cutB x3))
          exact this
        have hb2 : Below w.heap.size w (((W.setCell ⟨w.heap.size, 0, none⟩ (.string (cutB x1))).setCell ⟨w.heap.size, 1, none⟩ (.string (cutB x2))).setCell ⟨w.heap.size, 2, none⟩ (.string (cutB x3))) :=
          ((hb0.setCell (p := ⟨w.heap.size, 0, none⟩) (Nat.le_refl _) _).setCell (p := ⟨w.heap.size, 1, none⟩) (Nat.le_refl _) _).setCell (p := ⟨w.heap.size, 2, none⟩) (Nat.le_refl _) _
        generalize ((W.setCell ⟨w.heap.size, 0, none⟩ (.string (cutB x1))).setCell ⟨w.heap.size, 1, none⟩ (.string (cutB x2))).setCell ⟨w.heap.size, 2, none⟩ (.string (cutB x3)) = W2 at *
        have hsv := save_any w.heap.size (cutB x1) (cutB x2) (cutB x3) W2 hcur2 (by rw [cutB_size]; omega) (by rw [cutB_size]; omega) (by rw [cutB_size]; omega)
        refine hsv.mono ?_
        rintro e w3 ⟨rfl, hb3⟩
        by_cases hE : saveB (cutB x1) (cutB x2) (cutB x3) = s
        · obtain rfl : O = some (cutB x1, cutB x2, cutB x3) := by rw [HO2.out, if_pos hE]
          rw [hE]
          clear hE hsv
          go_wp2_with fail
          go_ret2
          exact ⟨hb2.trans (hb3.mono hb2.size), _, rfl, Nat.le_refl _, hcur2.below hb3⟩
        · obtain rfl : O = none := by rw [HO2.out, if_neg hE]
          have hE2 : ((saveB (cutB x1) (cutB x2) (cutB x3)).toList == s.toList) = false := eqB_false.2 hE
          clear hE hsv
          generalize saveB (cutB x1) (cutB x2) (cutB x3) = S at *
          go_wp2_with fail
          go_ret2
          exact ⟨hb2.trans (hb3.mono hb2.size), rfl⟩

set_option maxRecDepth 100000 in
set_option maxHeartbeats 1000000 in
theorem r1text_some {s x : ByteArray} {p q : Nat} (w : World) (hs : s.size ≤ big) (h : textAt s p = some (x, q)) :
    Calls Tryz.prog 72 #[.string s, .int .i64 p] w fun e w' => e = .returned (.tuple #[.string x, .int .i64 q, .int .i64 0]) ∧ w = w' := by
  have hs2 : s.size ≤ 1048576 := hs
  unfold textAt at h
  split at h
  case isFalse => cases h
  rename_i hh
  obtain ⟨h1, h2⟩ := hh
  injection h with h; injection h with e1 e2
  subst e1; subst e2
  have hl : lenAt s p = s[p].toNat := by
    unfold lenAt bl
    rw [List.getD_eq_getElem?_getD, List.getElem?_eq_getElem (by simpa using h1)]
    simp [ByteArray.getElem_eq_getElem_data]
  rw [hl] at h2 ⊢
  have hne : ((p : Int) == (s.size : Int)) = false := by rw [beq_eq_false_iff_ne]; omega
  have hlt : (s[p].toNat : Int) < 256 := by have := UInt8.toNat_lt s[p]; omega
  go_enter Tryz.func72, Tryz.ntmps72
  go_wp2_with fail
  go_ret3
  refine ⟨congrArg (fun q => Ending.returned (.tuple #[.string _, .int .i64 q, .int .i64 0])) (by omega), rfl⟩

set_option maxRecDepth 100000 in
set_option maxHeartbeats 1000000 in
theorem r1text_none {s : ByteArray} {p : Nat} (w : World) (hs : s.size ≤ big) (hp : p ≤ big) (h : textAt s p = none) :
    Calls Tryz.prog 72 #[.string s, .int .i64 p] w fun e w' => ∃ k : Int, e = .returned (.tuple #[.string emptyS, .int .i64 0, .int .i64 k]) ∧ (k != 0) = true ∧ w = w' := by
  have hs2 : s.size ≤ 1048576 := hs
  have hp2 : p ≤ 1048576 := hp
  unfold textAt at h
  split at h
  case isTrue => cases h
  rename_i hh
  rcases Nat.lt_trichotomy p s.size with hlt | heq | hgt
  · have h2 : s.size < p + 1 + lenAt s p := by omega
    have hl : lenAt s p = s[p].toNat := by
      unfold lenAt bl
      rw [List.getD_eq_getElem?_getD, List.getElem?_eq_getElem (by simpa using hlt)]
      simp [ByteArray.getElem_eq_getElem_data]
    rw [hl] at h2
    clear h hh hl
    have hne : ((p : Int) == (s.size : Int)) = false := by rw [beq_eq_false_iff_ne]; omega
    have hlt : (s[p].toNat : Int) < 256 := by have := UInt8.toNat_lt s[p]; omega
    go_enter Tryz.func72, Tryz.ntmps72
    go_wp2_with fail
    go_ret3
    exact ⟨3, rfl, rfl, rfl⟩
  · subst heq
    clear h hh
    go_enter Tryz.func72, Tryz.ntmps72
    go_wp2_with fail
    go_ret3
    exact ⟨3, rfl, rfl, rfl⟩
  · clear h hh
    go_enter Tryz.func72, Tryz.ntmps72
    go_wp2_with fail
    go_ret3
    exact ⟨1, rfl, rfl, rfl⟩
theorem r1text_any (s : ByteArray) (p : Nat) (w : World) (hs : s.size ≤ big) (hp : p ≤ big) :
    Calls Tryz.prog 72 #[.string s, .int .i64 p] w fun e w' => ∃ (x : ByteArray) (q : Nat) (k : Int), e = .returned (.tuple #[.string x, .int .i64 q, .int .i64 k]) ∧ w = w' ∧ q ≤ big ∧ x.size ≤ big := by
  cases h : textAt s p with
  | none => exact (r1text_none w hs hp h).mono fun e w' ⟨k, h1, _, h2⟩ => ⟨emptyS, 0, k, h1, h2, Nat.zero_le _, Nat.zero_le _⟩
  | some r =>
    obtain ⟨x, q⟩ := r
    obtain ⟨_, h2, _, h3⟩ := text_some w hs h
    exact (r1text_some w hs h).mono fun e w' ⟨h1, h2'⟩ => ⟨x, q, 0, h1, h2', Nat.le_trans h2 hs, Nat.le_trans h3 hs⟩
end Go.Proofs.YtabngdpijbpgeaaGreat
