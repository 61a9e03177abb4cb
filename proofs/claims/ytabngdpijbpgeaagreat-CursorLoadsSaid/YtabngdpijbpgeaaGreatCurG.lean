/- CursorLoads: what the law's function answers: true. -/
import Derived.Test.YtabngdpijbpgeaaGreatCurF
set_option linter.unusedVariables false
set_option linter.unusedSimpArgs false
namespace Go.Proofs.YtabngdpijbpgeaaGreat
open Go Go.RowKit

theorem loadC_some {s f g l : ByteArray} (h : loadC s = some (f, g, l)) : saveB f g l = s ∧ f.size ≤ 16 ∧ g.size ≤ 16 ∧ l.size ≤ 16 := by
  unfold loadC at h
  split at h
  · cases h
  rename_i a b d k hT
  split at h
  case isFalse => cases h
  rename_i hs
  injection h with h; injection h with e1 h; injection h with e2 e3
  subst e1; subst e2; subst e3
  exact ⟨hs, by rw [cutB_size]; omega, by rw [cutB_size]; omega, by rw [cutB_size]; omega⟩

set_option maxRecDepth 100000 in
set_option maxHeartbeats 2000000 in
theorem cursorLoads_any (s : ByteArray) (w : World) (hs : s.size ≤ 140737488351232) :
    Calls Tryz.prog 4 #[.string s] w fun e w' => e = .returned (.bool true) ∧ Below w.heap.size w w' := by
  obtain ⟨x, hx⟩ : ∃ x, x = s.extract 0 (min (s.size : Int) 80).toNat := ⟨_, rfl⟩
  have hxs : x.size ≤ 80 := by rw [hx]; simp [ByteArray.size_extract]; omega
  have HL := Lib.hid (fun w => load_any x w (by unfold big; omega))
  have HR := Lib.hid (fun w => rload_any x w (by unfold big; omega))
  have HX := Lib.hid hx
  cases hc : loadC x with
  | none =>
    rw [hc] at HL HR
    clear hc hx
    go_enter Tryz.func4, Tryz.ntmps4
    go_wp2_with fail
    rw [← HX.out]
    refine (HL.out _).mono ?_
    rintro e w1 ⟨hb1, rfl⟩
    go_wp2_with fail
    refine (HR.out _).mono ?_
    rintro e w2 ⟨hb2, rfl⟩
    go_wp2_with fail
    refine (fixed14 _).mono ?_
    rintro e w3 ⟨rfl, hb3⟩
    go_wp2_with fail
    go_ret
    exact ⟨rfl, keepBelow (keepBelow hb1 hb2) hb3⟩
  | some r =>
    obtain ⟨f, g, l⟩ := r
    rw [hc] at HL HR
    obtain ⟨h1, h2, h3, h4⟩ := loadC_some hc
    have HS := Lib.hid h1
    clear hc hx h1
    go_enter Tryz.func4, Tryz.ntmps4
    go_wp2_with fail
    rw [← HX.out]
    refine (HL.out _).mono ?_
    rintro e w1 ⟨hb1, c, rfl, hc1, hc2⟩
    have HC := Lib.hid hc2
    clear hc2
    go_wp2_with fail
    refine (HR.out _).mono ?_
    rintro e w2 ⟨hb2, d, rfl, hd1, hd2⟩
    have HC2 := Lib.hid (HC.out.below hb2)
    have HD := Lib.hid hd2
    have hdl := heap_lt hd2
    have hb3 := keepBelow hb1 hb2
    clear hd2 HC hb1 hb2 HL HR
    go_wp2_with fail
    refine (last_any c _ _ _ w2 HC2.out).mono ?_
    rintro e w3 ⟨rfl, n3, rfl⟩
    have HC3 := Lib.hid (HC2.out.below (below_drewN _ _ n3))
    have HD3 := Lib.hid (heapR HD.out (below_drewN _ _ n3))
    have hb4 := hb3.trans (below_drewN _ _ n3)
    obtain ⟨w3, hw3⟩ : ∃ w3, w3 = w2.drewN n3 := ⟨_, rfl⟩
    have hz3 : w3.heap.size = w2.heap.size := by rw [hw3]; rfl
    rw [← hw3] at HC3 HD3 hb4
    rw [← hw3]
    clear hw3 HC2 HD hb3
    go_wp2_with fail
    refine (save_any c f g l w3 HC3.out (by omega) (by omega) (by omega)).mono ?_
    rw [HS.out]
    rintro e w4 ⟨rfl, hb5⟩
    have hD4 := heapR HD3.out hb5
    have hd2 := cell_of_heap (o := 2) hD4
    have hd3 := cell_of_heap (o := 3) hD4
    have hb6 := keepBelow hb4 hb5
    clear hD4 HC3 HD3 hb4 hb5
    go_wp2_with (go_at_call 30; refine (fixed14 _).mono ?_; rintro e w5 ⟨rfl, hb7⟩)
    go_ret
    exact ⟨rfl, keepBelow hb6 hb7⟩
end Go.Proofs.YtabngdpijbpgeaaGreat
