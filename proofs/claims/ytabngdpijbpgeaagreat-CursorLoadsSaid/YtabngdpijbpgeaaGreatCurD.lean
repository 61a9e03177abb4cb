/- The reference's Load is the cursor's. -/
import Derived.Test.YtabngdpijbpgeaaGreatCurC
set_option linter.unusedVariables false
set_option linter.unusedSimpArgs false
namespace Go.Proofs.YtabngdpijbpgeaaGreat
open Go Go.RowKit

theorem textAt_split {s x : ByteArray} {p q : Nat} (h : textAt s p = some (x, q)) : q = p + 1 + x.size ∧ q ≤ s.size ∧ x.size ≤ 255 ∧ bl s = (bl s).take p ++ textBytes x ++ (bl s).drop q := by
  unfold textAt at h
  split at h
  case isFalse => cases h
  rename_i hh
  obtain ⟨h1, h2⟩ := hh
  injection h with h; injection h with e1 e2
  have hlen : lenAt s p ≤ 255 := by unfold lenAt; have := UInt8.toNat_lt ((bl s).getD p 0); omega
  have hxs : x.size = lenAt s p := by rw [← e1]; simp [ByteArray.size_extract]; omega
  refine ⟨by omega, by omega, by omega, ?_⟩
  have hp : p < (bl s).length := by rw [bl_length]; exact h1
  have e3 : textBytes x = ((bl s).drop p).take (1 + lenAt s p) := by
    rw [List.drop_eq_getElem_cons hp, Nat.add_comm 1, List.take_succ_cons]
    unfold textBytes
    congr 1
    · rw [hxs]; unfold lenAt; rw [List.getD_eq_getElem?_getD, List.getElem?_eq_getElem hp]; simp
    · rw [← e1]; unfold bl; simp [ByteArray.data_extract, Array.toList_extract, List.extract_eq_take_drop]
  rw [e3, ← e2, List.append_assoc]
  have e4 : (bl s).drop (p + 1 + lenAt s p) = ((bl s).drop p).drop (1 + lenAt s p) := by rw [List.drop_drop]; congr 1; omega
  rw [e4, List.take_append_drop, List.take_append_drop]

theorem loadT_split {s a b d : ByteArray} {k : Nat} (h : loadT s = some (a, b, d, k)) :
    ∃ t : UInt8, bl s = t :: (textBytes a ++ textBytes b ++ textBytes d ++ (bl s).drop k) ∧ (∀ h0 : 0 < s.size, s[0] = t) ∧ 0 < s.size ∧ k = 4 + a.size + b.size + d.size ∧ k ≤ s.size ∧ a.size ≤ 255 ∧ b.size ≤ 255 ∧ d.size ≤ 255 := by
  unfold loadT at h
  split at h
  · cases h
  rename_i a' i h1
  split at h
  · cases h
  rename_i b' j h2
  split at h
  · cases h
  rename_i d' k' h3
  injection h with h; injection h with e1 h; injection h with e2 h; injection h with e3 e4
  subst e1; subst e2; subst e3; subst e4
  obtain ⟨p1, p2, p3, p4⟩ := textAt_split h1
  obtain ⟨q1, q2, q3, q4⟩ := textAt_split h2
  obtain ⟨r1, r2, r3, r4⟩ := textAt_split h3
  have h0 : 0 < s.size := by omega
  have hb : 0 < (bl s).length := by rw [bl_length]; exact h0
  refine ⟨(bl s)[0], ?_, fun _ => by simp [bl, ByteArray.getElem_eq_getElem_data], h0, by omega, by omega, p3, q3, r3⟩
  have e1 : (bl s).take 1 = [(bl s)[0]] := by rw [List.take_succ_eq_append_getElem hb]; simp
  have hj : (bl s).drop i = textBytes b' ++ (bl s).drop j := by
    refine List.append_cancel_left (?_ : (bl s).take i ++ _ = (bl s).take i ++ _)
    rw [List.take_append_drop, ← List.append_assoc]; exact q4
  have hk : (bl s).drop j = textBytes d' ++ (bl s).drop k' := by
    refine List.append_cancel_left (?_ : (bl s).take j ++ _ = (bl s).take j ++ _)
    rw [List.take_append_drop, ← List.append_assoc]; exact r4
  have e2 := p4
  rw [hj, hk, e1] at e2
  rw [List.append_assoc, List.append_assoc]
  simpa using e2

/-- What the reference asks. -/
def refOk (s a b d : ByteArray) (k : Nat) (t : UInt8) : Prop := k = s.size ∧ t.toNat ≤ 1 ∧ a.size ≤ 16 ∧ b.size ≤ 16 ∧ d.size ≤ 16 ∧ (t.toNat = 1 ↔ d.toList ≠ [])
theorem load_law {s a b d : ByteArray} {k : Nat} {t : UInt8} (h : loadT s = some (a, b, d, k)) (ht : ∀ h0 : 0 < s.size, s[0] = t) :
    saveB (cutB a) (cutB b) (cutB d) = s ↔ refOk s a b d k t := by
  obtain ⟨t', h1, h2, h0, h3, h4, h5, h6, h7⟩ := loadT_split h
  obtain rfl : t' = t := (h2 h0).symm.trans (ht h0)
  have hs : s = bs (bl s) := (bs_bl s).symm
  have hcut : ∀ x : ByteArray, (cutB x).size ≤ x.size ∧ ((cutB x).size = x.size → x.size ≤ 16) := fun x => by rw [cutB_size]; omega
  have hnil : ∀ x : ByteArray, x.toList = [] ↔ x.size = 0 := fun x => by
    rw [ByteArray.toList_eq]
    constructor
    · intro e; have : x.data.toList.length = 0 := by rw [e]; rfl
      simpa using this
    · intro e; apply List.eq_nil_of_length_eq_zero; simpa using e
  constructor
  · intro e
    have e' : (if (cutB d).toList = [] then [0] else [1]) ++ textBytes (cutB a) ++ textBytes (cutB b) ++ textBytes (cutB d) = bl s := by
      rw [← e]; unfold saveB; rw [bl_bs]
    have hl := congrArg List.length e'
    have hd := congrArg List.length h1
    simp only [List.length_append, List.length_cons, textBytes_length, List.length_drop, bl_length] at hl hd
    have hi : (if (cutB d).toList = [] then ([0] : List UInt8) else [1]).length = 1 := by split <;> rfl
    rw [hi] at hl
    have ha := hcut a; have hb := hcut b; have hdd := hcut d
    have hdc : cutB d = d := cutB_self (hdd.2 (by omega))
    rw [h1, hdc] at e'
    refine ⟨by omega, ?_, ha.2 (by omega), hb.2 (by omega), hdd.2 (by omega), ?_⟩
    · split at e' <;> (simp only [List.cons_append, List.cons.injEq] at e'; rw [← e'.1]; decide)
    · split at e'
      · rename_i hx
        simp only [List.cons_append, List.cons.injEq] at e'
        rw [← e'.1]
        simp [hx]
      · rename_i hx
        simp only [List.cons_append, List.cons.injEq] at e'
        rw [← e'.1]
        simp [hx]
  · rintro ⟨g1, g2, g3, g4, g5, g6⟩
    rw [cutB_self g3, cutB_self g4, cutB_self g5, hs]
    unfold saveB
    rw [h1]
    congr 1
    have hdr : (bl s).drop k = [] := List.drop_of_length_le (by rw [bl_length]; omega)
    rw [hdr]
    have ht1 : t' = if d.toList = [] then 0 else 1 := by
      split
      · rename_i hx
        have : ¬ t'.toNat = 1 := fun e => g6.1 e hx
        apply UInt8.toNat_inj.1; show t'.toNat = 0; omega
      · rename_i hx
        have := g6.2 hx
        apply UInt8.toNat_inj.1; show t'.toNat = 1; omega
    rw [ht1]
    split <;> simp

/-- Where the reference's cursor lies. -/
def RCurAt (w : World) (c : Nat) (f g l : ByteArray) (told : Bool) : Prop := w.heap[c]? = some (.cells #[.string f, .string g, .string l, .bool told] 55 (0, 0))
def RLoadPost (w : World) (o : Option (ByteArray × ByteArray × ByteArray)) (e : Ending) (w' : World) : Prop :=
  Below w.heap.size w w' ∧ match o with
    | none => e = .returned (.tuple #[.pointer none, .int .i64 4])
    | some (f, g, l) => ∃ c, e = .returned (.tuple #[.pointer (some ⟨c, 0, none⟩), .int .i64 0]) ∧ w.heap.size ≤ c ∧ RCurAt w' c f g l (!l.toList.isEmpty)

theorem nil_size (x : ByteArray) : x.toList = [] ↔ x.size = 0 := by
  rw [ByteArray.toList_eq]
  constructor
  · intro e; have : x.data.toList.length = 0 := by rw [e]; rfl
    simpa using this
  · intro e; apply List.eq_nil_of_length_eq_zero; simpa using e

set_option maxRecDepth 100000 in
set_option maxHeartbeats 2000000 in
theorem rload_any (s : ByteArray) (w : World) (hs : s.size ≤ big) : Calls Tryz.prog 31 #[.string s] w (RLoadPost w (loadC s)) := by
  have hs2 : s.size ≤ 1048576 := hs
  obtain ⟨O, hO⟩ : ∃ O, O = loadC s := ⟨_, rfl⟩
  rw [← hO]
  have HO := Lib.hid hO
  clear hO
  cases h1 : textAt s 1 with
  | none =>
    obtain rfl : O = none := by rw [HO.out]; simp [loadC, loadT, h1]
    have HT1 := Lib.hid (fun w => r1text_none w hs (by unfold big; omega) h1)
    clear h1
    go_enter Tryz.func31, Tryz.ntmps31
    go_wp2_with fail
    refine (HT1.out _).mono ?_
    rintro e w' ⟨k1, rfl, hk1, rfl⟩
    go_wp2_with fail
    refine (r1text_any s 0 _ hs (Nat.zero_le _)).mono ?_
    rintro e w' ⟨x2, q2, k2, rfl, rfl, hq2, hx2⟩
    go_wp2_with fail
    refine (r1text_any s q2 _ hs hq2).mono ?_
    rintro e w' ⟨x3, q3, k3, rfl, rfl, hq3, hx3⟩
    go_wp2_with fail
    go_ret2
    exact ⟨Below.refl _ _, rfl⟩
  | some r1 =>
    obtain ⟨x1, p1⟩ := r1
    obtain ⟨_, hq1a, hq1b, hq1c⟩ := text_some w hs h1
    have HT1 := Lib.hid (fun w => r1text_some w hs h1)
    cases h2 : textAt s p1 with
    | none =>
      obtain rfl : O = none := by rw [HO.out]; simp [loadC, loadT, h1, h2]
      have HT2 := Lib.hid (fun w => r1text_none w hs (by unfold big; omega) h2)
      clear h1 h2
      go_enter Tryz.func31, Tryz.ntmps31
      go_wp2_with fail
      refine (HT1.out _).mono ?_
      rintro e w' ⟨rfl, rfl⟩
      go_wp2_with fail
      refine (HT2.out _).mono ?_
      rintro e w' ⟨k2, rfl, hk2, rfl⟩
      go_wp2_with fail
      refine (r1text_any s 0 _ hs (Nat.zero_le _)).mono ?_
      rintro e w' ⟨x3, q3, k3, rfl, rfl, hq3, hx3⟩
      go_wp2_with fail
      go_ret2
      exact ⟨Below.refl _ _, rfl⟩
    | some r2 =>
      obtain ⟨x2, p2⟩ := r2
      obtain ⟨_, hq2a, hq2b, hq2c⟩ := text_some w hs h2
      have HT2 := Lib.hid (fun w => r1text_some w hs h2)
      cases h3 : textAt s p2 with
      | none =>
        obtain rfl : O = none := by rw [HO.out]; simp [loadC, loadT, h1, h2, h3]
        have HT3 := Lib.hid (fun w => r1text_none w hs (by unfold big; omega) h3)
        clear h1 h2 h3
        go_enter Tryz.func31, Tryz.ntmps31
        go_wp2_with fail
        refine (HT1.out _).mono ?_
        rintro e w' ⟨rfl, rfl⟩
        go_wp2_with fail
        refine (HT2.out _).mono ?_
        rintro e w' ⟨rfl, rfl⟩
        go_wp2_with fail
        refine (HT3.out _).mono ?_
        rintro e w' ⟨k3, rfl, hk3, rfl⟩
        go_wp2_with fail
        go_ret2
        exact ⟨Below.refl _ _, rfl⟩
      | some r3 =>
        obtain ⟨x3, p3⟩ := r3
        obtain ⟨_, hq3a, hq3b, hq3c⟩ := text_some w hs h3
        have HT3 := Lib.hid (fun w => r1text_some w hs h3)
        have h0 : 0 < s.size := by omega
        have hT : loadT s = some (x1, x2, x3, p3) := by simp [loadT, h1, h2, h3]
        have hlaw := load_law hT (t := s[0]) (fun _ => rfl)
        have hO1 : refOk s x1 x2 x3 p3 s[0] → O = some (x1, x2, x3) := fun hr => by
          rw [HO.out, loadC, hT]; dsimp only
          rw [if_pos (hlaw.2 hr), cutB_self hr.2.2.1, cutB_self hr.2.2.2.1, cutB_self hr.2.2.2.2.1]
        have hO2 : ¬ refOk s x1 x2 x3 p3 s[0] → O = none := fun hr => by
          rw [HO.out, loadC, hT]; dsimp only
          rw [if_neg (fun e => hr (hlaw.1 e))]
        have HO1 := Lib.hid hO1
        have HO2 := Lib.hid hO2
        clear h1 h2 h3 hT hlaw hO1 hO2
        have hd : x3.toList.isEmpty = decide (x3.toList = []) := by cases x3.toList <;> simp
        by_cases c1 : p3 = s.size
        · have c1b : ((p3 : Int) != (s.size : Int)) = false := by rw [c1]; simp
          have HC1 := Lib.hid c1
          clear c1 hd
          by_cases c2 : s[0].toNat ≤ 1
          · have c2b : (s[0].toNat : Int) ≤ 1 := by omega
            by_cases c3 : x1.size ≤ 16
            · have c3b : (x1.size : Int) ≤ 16 := by omega
              by_cases c4 : x2.size ≤ 16
              · have c4b : (x2.size : Int) ≤ 16 := by omega
                by_cases c5 : x3.size ≤ 16
                · have c5b : (x3.size : Int) ≤ 16 := by omega
                  by_cases c6 : s[0].toNat = 1
                  · have c6b : ((s[0].toNat : Int) == 1) = true := by rw [beq_iff_eq]; omega
                    by_cases c7 : x3.toList = []
                    · have c7b : x3.toList.isEmpty = true := by rw [c7]; rfl
                      have c7c : (!x3.toList.isEmpty) = false := by rw [c7b]; rfl
                      obtain rfl : O = none := HO2.out (fun hr => hr.2.2.2.2.2.1 c6 c7)
                      clear c6 c7
                      go_enter Tryz.func31, Tryz.ntmps31
                      go_wp2_with fail
                      refine (HT1.out _).mono ?_
                      rintro e w' ⟨rfl, rfl⟩
                      go_wp2_with fail
                      refine (HT2.out _).mono ?_
                      rintro e w' ⟨rfl, rfl⟩
                      go_wp2_with fail
                      refine (HT3.out _).mono ?_
                      rintro e w' ⟨rfl, rfl⟩
                      go_wp2_with fail
                      go_ret2
                      exact ⟨Below.refl _ _, rfl⟩
                    · have c7b : x3.toList.isEmpty = false := by
                        cases h : x3.toList with
                        | nil => exact absurd h c7
                        | cons a b => rfl
                      have c7c : (!x3.toList.isEmpty) = true := by rw [c7b]; rfl
                      obtain rfl : O = some (x1, x2, x3) := HO1.out ⟨HC1.out, c2, c3, c4, c5, fun _ => c7, fun _ => c6⟩
                      clear c6 c7
                      go_enter Tryz.func31, Tryz.ntmps31
                      go_wp2_with fail
                      refine (HT1.out _).mono ?_
                      rintro e w' ⟨rfl, rfl⟩
                      go_wp2_with fail
                      refine (HT2.out _).mono ?_
                      rintro e w' ⟨rfl, rfl⟩
                      go_wp2_with fail
                      refine (HT3.out _).mono ?_
                      rintro e w' ⟨rfl, rfl⟩
                      go_wp2_with fail
                      go_ret2
                      exact ⟨(Below.refl _ _).alloc (Nat.le_refl _) _, _, rfl, Nat.le_refl _, by rw [c7c]; exact heap_alloc_new _ _⟩
                  · have c6b : ((s[0].toNat : Int) == 1) = false := by rw [beq_eq_false_iff_ne]; omega
                    by_cases c7 : x3.toList = []
                    · have c7b : x3.toList.isEmpty = true := by rw [c7]; rfl
                      have c7c : (!x3.toList.isEmpty) = false := by rw [c7b]; rfl
                      obtain rfl : O = some (x1, x2, x3) := HO1.out ⟨HC1.out, c2, c3, c4, c5, fun h => absurd h c6, fun h => absurd c7 h⟩
                      clear c6 c7
                      go_enter Tryz.func31, Tryz.ntmps31
                      go_wp2_with fail
                      refine (HT1.out _).mono ?_
                      rintro e w' ⟨rfl, rfl⟩
                      go_wp2_with fail
                      refine (HT2.out _).mono ?_
                      rintro e w' ⟨rfl, rfl⟩
                      go_wp2_with fail
                      refine (HT3.out _).mono ?_
                      rintro e w' ⟨rfl, rfl⟩
                      go_wp2_with fail
                      go_ret2
                      exact ⟨(Below.refl _ _).alloc (Nat.le_refl _) _, _, rfl, Nat.le_refl _, by rw [c7c]; exact heap_alloc_new _ _⟩
                    · have c7b : x3.toList.isEmpty = false := by
                        cases h : x3.toList with
                        | nil => exact absurd h c7
                        | cons a b => rfl
                      have c7c : (!x3.toList.isEmpty) = true := by rw [c7b]; rfl
                      obtain rfl : O = none := HO2.out (fun hr => c6 (hr.2.2.2.2.2.2 c7))
                      clear c6 c7
                      go_enter Tryz.func31, Tryz.ntmps31
                      go_wp2_with fail
                      refine (HT1.out _).mono ?_
                      rintro e w' ⟨rfl, rfl⟩
                      go_wp2_with fail
                      refine (HT2.out _).mono ?_
                      rintro e w' ⟨rfl, rfl⟩
                      go_wp2_with fail
                      refine (HT3.out _).mono ?_
                      rintro e w' ⟨rfl, rfl⟩
                      go_wp2_with fail
                      go_ret2
                      exact ⟨Below.refl _ _, rfl⟩
                · have c5b : (16 : Int) < (x3.size : Int) := by omega
                  obtain rfl : O = none := HO2.out (fun hr => c5 hr.2.2.2.2.1)
                  go_enter Tryz.func31, Tryz.ntmps31
                  go_wp2_with fail
                  refine (HT1.out _).mono ?_
                  rintro e w' ⟨rfl, rfl⟩
                  go_wp2_with fail
                  refine (HT2.out _).mono ?_
                  rintro e w' ⟨rfl, rfl⟩
                  go_wp2_with fail
                  refine (HT3.out _).mono ?_
                  rintro e w' ⟨rfl, rfl⟩
                  go_wp2_with fail
                  go_ret2
                  exact ⟨Below.refl _ _, rfl⟩
              · have c4b : (16 : Int) < (x2.size : Int) := by omega
                obtain rfl : O = none := HO2.out (fun hr => c4 hr.2.2.2.1)
                go_enter Tryz.func31, Tryz.ntmps31
                go_wp2_with fail
                refine (HT1.out _).mono ?_
                rintro e w' ⟨rfl, rfl⟩
                go_wp2_with fail
                refine (HT2.out _).mono ?_
                rintro e w' ⟨rfl, rfl⟩
                go_wp2_with fail
                refine (HT3.out _).mono ?_
                rintro e w' ⟨rfl, rfl⟩
                go_wp2_with fail
                go_ret2
                exact ⟨Below.refl _ _, rfl⟩
            · have c3b : (16 : Int) < (x1.size : Int) := by omega
              obtain rfl : O = none := HO2.out (fun hr => c3 hr.2.2.1)
              go_enter Tryz.func31, Tryz.ntmps31
              go_wp2_with fail
              refine (HT1.out _).mono ?_
              rintro e w' ⟨rfl, rfl⟩
              go_wp2_with fail
              refine (HT2.out _).mono ?_
              rintro e w' ⟨rfl, rfl⟩
              go_wp2_with fail
              refine (HT3.out _).mono ?_
              rintro e w' ⟨rfl, rfl⟩
              go_wp2_with fail
              go_ret2
              exact ⟨Below.refl _ _, rfl⟩
          · have c2b : (1 : Int) < (s[0].toNat : Int) := by omega
            obtain rfl : O = none := HO2.out (fun hr => c2 hr.2.1)
            go_enter Tryz.func31, Tryz.ntmps31
            go_wp2_with fail
            refine (HT1.out _).mono ?_
            rintro e w' ⟨rfl, rfl⟩
            go_wp2_with fail
            refine (HT2.out _).mono ?_
            rintro e w' ⟨rfl, rfl⟩
            go_wp2_with fail
            refine (HT3.out _).mono ?_
            rintro e w' ⟨rfl, rfl⟩
            go_wp2_with fail
            go_ret2
            exact ⟨Below.refl _ _, rfl⟩
        · have c1b : ((p3 : Int) != (s.size : Int)) = true := by rw [bne_iff_ne]; omega
          obtain rfl : O = none := HO2.out (fun hr => c1 hr.1)
          clear c1 hd
          go_enter Tryz.func31, Tryz.ntmps31
          go_wp2_with fail
          refine (HT1.out _).mono ?_
          rintro e w' ⟨rfl, rfl⟩
          go_wp2_with fail
          refine (HT2.out _).mono ?_
          rintro e w' ⟨rfl, rfl⟩
          go_wp2_with fail
          refine (HT3.out _).mono ?_
          rintro e w' ⟨rfl, rfl⟩
          go_wp2_with fail
          go_ret2
          exact ⟨Below.refl _ _, rfl⟩
end Go.Proofs.YtabngdpijbpgeaaGreat
