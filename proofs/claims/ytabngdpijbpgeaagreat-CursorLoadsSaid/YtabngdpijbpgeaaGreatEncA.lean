/- leaf.Encode: a leaf that may be, as bytes. -/
import Derived.Test.YtabngdpijbpgeaaGreatLeafE
import Derived.Test.YtabngdpijbpgeaaGreatFieldB
set_option linter.unusedVariables false
set_option linter.unusedSimpArgs false
namespace Go.Proofs.YtabngdpijbpgeaaGreat
open Go Go.RowKit

/-- Bytes, and bytes 0 up to N of them. -/
def stL (pre : List UInt8) (N : Nat) : List UInt8 := pre ++ List.replicate (N - pre.length) 0
def stB (pre : List UInt8) (N : Nat) : ByteArray := bs (stL pre N)
theorem stL_length {pre : List UInt8} {N : Nat} (h : pre.length ≤ N) : (stL pre N).length = N := by simp [stL]; omega
theorem stB_size {pre : List UInt8} {N : Nat} (h : pre.length ≤ N) : (stB pre N).size = N := by unfold stB; rw [bs_size, stL_length h]
theorem stB_over {pre t : List UInt8} {N : Nat} (h : pre.length + t.length ≤ N) : bs (overL (bl (stB pre N)) pre.length t) = stB (pre ++ t) N := by
  unfold stB
  rw [bl_bs]
  congr 1
  simp only [overL, stL]
  rw [List.take_append_of_le_length (Nat.le_refl _), List.take_of_length_le (Nat.le_refl _), ← List.drop_drop, List.drop_append_of_le_length (Nat.le_refl _), List.drop_length, List.nil_append, List.drop_replicate]
  simp only [List.length_append, Nat.sub_sub]
theorem stB_full {pre : List UInt8} {N : Nat} (h : pre.length = N) : stB pre N = bs pre := by
  unfold stB stL; rw [h, Nat.sub_self, List.replicate_zero, List.append_nil]

def pairBytes : List Pair → List UInt8
  | [] => []
  | p :: r => textBytes p.1 ++ textBytes p.2 ++ pairBytes r
theorem pairBytes_length (ps : List Pair) : (pairBytes ps).length = pairsSize ps := by
  induction ps with
  | nil => rfl
  | cons p r ih => simp only [pairBytes, List.length_append, textBytes_length, ih, pairsSize, List.map_cons, List.sum_cons]; omega
theorem pairBytes_append (a b : List Pair) : pairBytes (a ++ b) = pairBytes a ++ pairBytes b := by
  induction a with
  | nil => rfl
  | cons p r ih => simp [pairBytes, ih]
theorem pairBytes_succ (ps : List Pair) (k : Nat) (p : Pair) (h : ps[k]? = some p) : pairBytes (ps.take (k + 1)) = pairBytes (ps.take k) ++ textBytes p.1 ++ textBytes p.2 := by
  rw [List.take_add_one, h, Option.toList_some, pairBytes_append]; simp [pairBytes]
def headBytes (l : LeafD) : List UInt8 := [76] ++ leBytes 1 l.pairs.length ++ leBytes 2 l.next.toNat ++ textBytes l.high
def encBytes (l : LeafD) : List UInt8 := headBytes l ++ pairBytes l.pairs
theorem headBytes_length (l : LeafD) : (headBytes l).length = 5 + l.high.size := by
  simp only [headBytes, List.length_append, leBytes_length, textBytes_length, List.length_singleton]; omega
theorem encBytes_length (l : LeafD) : (encBytes l).length = 5 + l.high.size + pairsSize l.pairs := by
  simp only [encBytes, List.length_append, headBytes_length, pairBytes_length]
def encL (l : LeafD) : ByteArray := if rightL l then bs (encBytes l) else emptyS

theorem keyB_size {s : ByteArray} (h : keyB s = true) : 1 ≤ s.size ∧ s.size ≤ 16 := by
  simp only [keyB, Bool.and_eq_true, Bool.not_eq_true', decide_eq_true_eq] at h
  refine ⟨?_, by omega⟩
  rw [ByteArray.toList_eq] at h
  have h1 : s.data.toList ≠ [] := by intro e; rw [e] at h; simp at h
  have h2 : (bl s).length ≠ 0 := by intro e; exact h1 (List.eq_nil_of_length_eq_zero e)
  rw [bl_length] at h2; omega
theorem valueB_size {s : ByteArray} (h : valueB s = true) : s.size ≤ 32 := by
  simp only [valueB, decide_eq_true_eq] at h; omega
theorem okPairs_sizes {d : ByteArray} {ps : List Pair} (h : okPairs d ps = true) : ∀ p ∈ ps, 1 ≤ p.1.size ∧ p.1.size ≤ 16 ∧ p.2.size ≤ 32 := by
  induction ps generalizing d with
  | nil => simp
  | cons q r ih =>
    obtain ⟨_, h1, h2, h3⟩ := okPairs_head h
    intro p hp
    simp only [List.mem_cons] at hp
    rcases hp with rfl | hp
    · have := keyB_size h1; have := valueB_size h2; omega
    · exact ih h3 p hp
theorem pairsSize_ge {ps : List Pair} (h : ∀ p ∈ ps, 1 ≤ p.1.size ∧ p.1.size ≤ 16 ∧ p.2.size ≤ 32) : 3 * ps.length ≤ pairsSize ps := by
  induction ps with
  | nil => simp [pairsSize]
  | cons q r ih =>
    have h1 := h q (by simp)
    have h2 := ih fun p hp => h p (by simp [hp])
    simp only [pairsSize, List.map_cons, List.sum_cons, List.length_cons] at *
    omega
theorem pairsSize_take_le (ps : List Pair) (k : Nat) : pairsSize (ps.take k) ≤ pairsSize ps := by
  induction ps generalizing k with
  | nil => simp
  | cons p r ih =>
    cases k with
    | zero => simp [pairsSize]
    | succ k => have := ih k; simp only [pairsSize, List.take_succ_cons, List.map_cons, List.sum_cons] at *; omega
/-- What a leaf that may be is. -/
theorem right_parts {l : LeafD} (h : rightL l = true) : okPairs emptyS l.pairs = true ∧ highB (lastKey emptyS l.pairs) l.high = true ∧ 0 ≤ l.next ∧ l.next ≤ 1024 ∧ 5 + pairsSize l.pairs + 16 ≤ 252 := by
  simp only [rightL, Bool.and_eq_true, decide_eq_true_eq, fitsL, leafSize] at h
  obtain ⟨⟨⟨⟨h1, h2⟩, h3⟩, h4⟩, h5⟩ := h
  refine ⟨h1, h2, h3, h4, ?_⟩
  have h6 := of_decide_eq_true h5
  omega
theorem right_high {l : LeafD} (h : rightL l = true) : l.high.size ≤ 16 := by
  have h2 := (right_parts h).2.1
  simp only [highB, Bool.or_eq_true, Bool.and_eq_true] at h2
  rcases h2 with h2 | h2
  · rw [ByteArray.toList_eq] at h2
    have : (bl l.high).length = 0 := by
      show l.high.data.toList.length = 0
      rw [List.isEmpty_iff.1 h2]; rfl
    rw [bl_length] at this; omega
  · exact (keyB_size h2.1).2
theorem right_LB {l : LeafD} (h : rightL l = true) : LB l := by
  have h1 := right_parts h
  have h2 := okPairs_sizes h1.1
  have h3 := pairsSize_ge h2
  have h4 := right_high h
  refine ⟨⟨by unfold big; omega, fun p hp => ?_⟩, by unfold big; omega⟩
  have := h2 p hp
  unfold big; omega
theorem right_count {l : LeafD} (h : rightL l = true) : 3 * l.pairs.length ≤ 231 := by
  have h1 := right_parts h
  have h3 := pairsSize_ge (okPairs_sizes h1.1)
  omega

set_option maxRecDepth 100000 in
set_option maxHeartbeats 2000000 in
theorem leafenc_any (a : Option Addr) (cap : Nat) (l : LeafD) (w : World) (hp : Sl w 41 a (pairCells l.pairs)) (hR : rightL l = true) :
    Calls Tryz.prog 120 #[.agg #[.slice a l.pairs.length cap, .string l.high, .int .i64 l.next]] w
      fun e w' => e = .returned (.string (bs (encBytes l))) ∧ Below w.heap.size w w' := by
  have hl := right_LB hR
  have hc := right_count hR
  have hh := right_high hR
  obtain ⟨hok, _, hn0, hn1, hsz⟩ := right_parts hR
  have hsizes := okPairs_sizes hok
  obtain ⟨ps, high, next⟩ := l
  obtain ⟨nx, rfl⟩ := Int.eq_ofNat_of_zero_le hn0
  dsimp only at *
  obtain ⟨N, hN⟩ : ∃ N : Nat, N = 5 + high.size + pairsSize ps := ⟨_, rfl⟩
  have hN2 : N ≤ 252 := by omega
  have hN3 : leafSize ⟨ps, high, nx⟩ = (N : Int) := by unfold leafSize; dsimp only; omega
  have hnx : nx ≤ 1024 := by omega
  have HR := Lib.hid hR
  have HN := Lib.hid hN
  have HN3 := Lib.hid hN3
  have HL := Lib.hid hl
  have HSZ := Lib.hid hsizes
  have hN4 : 5 + high.size ≤ N := by omega
  clear hR hok hl hN hN3 hsizes hn0 hn1
  go_enter Tryz.func120, Tryz.ntmps120
  go_wp2_with fail
  generalize hW : w.alloc (.cells #[.slice a ps.length cap, .string high, .int .i64 nx] 120) = W
  obtain ⟨hb0, hlt0, hx⟩ := boxes1 hW
  have hbox := boxR hx
  have HP := Lib.hid (hp.below hb0)
  clear hW hp hx
  refine (right_any _ _ ⟨ps, high, nx⟩ _ HP.out HL.out).mono ?_
  rintro e w1 ⟨rfl, hb1⟩
  rw [HR.out]
  go_upto_region 3 with (fail)
  go_cut [3] (fun s wx => s = .string (stB [76] N) ∧ Below W.heap.size W wx)
  case first =>
    have hconv : ∀ (w'' : World) (b : Nat), w''.cell? ⟨b, 0, none⟩ = some (.int .u8 76) → (convert 66 9 (.slice (some ⟨b, 0, none⟩) 1 1)).run Tryz.prog w'' = .ok (.string (bs [76])) w'' := by
      intro w'' b hc
      exact run_bytes_string w'' _ _ _ b 0 1 1 [76] Tryz.underlying66 Tryz.underlying5 Tryz.underlying9 rfl (fun j v hv => by
        have : j = 0 := by have := (List.getElem?_eq_some_iff.1 hv).1; simp [byteCells] at this; omega
        subst this; simp [byteCells] at hv; rw [← hv]; exact hc)
    have hz1 : w.heap.size < w1.heap.size := by have := hb1.size; omega
    have E1 := Lib.hid (show bs (bl (bs [76]) ++ List.replicate (N - (bs [76]).size) 0) = stB [76] N by
      rw [bs_size, bl_bs]; rfl)
    go_region_with (first
        | (go_at_call 159; refine (size_any _ _ ⟨ps, high, nx⟩ _ (HP.out.below (by (repeat (first | assumption | refine Below.drew ?_ | refine keepAlloc ?_ _ | refine keepBelow ?_ (by assumption))))) HL.out).mono ?_; rw [HN3.out]; rintro e w' ⟨rfl, hb⟩; have hcc := (bcell hb).1)
        | (go_at_call 160; refine (fpad_ok (bs [76]) N _ (by rw [bs_size]; show 1 ≤ N; omega) (by omega)).mono ?_; rintro e w' ⟨rfl, hb⟩))
    all_goals
      go_wp2_with fail
      go_meet
      exact ⟨congrArg Value.string E1.out, by (repeat (first | assumption | refine Below.drew ?_ | refine keepAlloc ?_ _ | refine keepBelow ?_ (by assumption)))⟩
  case rest =>
    obtain ⟨rfl, hb2⟩ := hcut
    clear hb1
    have p1 : bs (overL (bl (stB [76] N)) 1 (leBytes 1 ps.length)) = stB ([76] ++ leBytes 1 ps.length) N := stB_over (by rw [leBytes_length]; show 1 + 1 ≤ N; omega)
    have p2 : bs (overL (bl (stB ([76] ++ leBytes 1 ps.length) N)) 2 (leBytes 2 nx)) = stB ([76] ++ leBytes 1 ps.length ++ leBytes 2 nx) N := by
      have := stB_over (pre := [76] ++ leBytes 1 ps.length) (t := leBytes 2 nx) (N := N) (by simp [leBytes_length]; omega)
      simpa [leBytes_length] using this
    have p3 : bs (overL (bl (stB ([76] ++ leBytes 1 ps.length ++ leBytes 2 nx) N)) 4 (textBytes high)) = stB (headBytes ⟨ps, high, nx⟩) N := by
      have := stB_over (pre := [76] ++ leBytes 1 ps.length ++ leBytes 2 nx) (t := textBytes high) (N := N) (by simp [leBytes_length, textBytes_length]; omega)
      rw [headBytes]; dsimp only; rw [Int.toNat_natCast]
      simpa [leBytes_length] using this
    have q1 := stB_size (pre := [76]) (N := N) (by show 1 ≤ N; omega)
    have q2 := stB_size (pre := [76] ++ leBytes 1 ps.length) (N := N) (by simp [leBytes_length]; omega)
    have q3 := stB_size (pre := [76] ++ leBytes 1 ps.length ++ leBytes 2 nx) (N := N) (by simp [leBytes_length]; omega)
    have P1 := Lib.hid p1
    have P2 := Lib.hid p2
    have P3 := Lib.hid p3
    have Q1 := Lib.hid q1
    have Q2 := Lib.hid q2
    have Q3 := Lib.hid q3
    clear p1 p2 p3 q1 q2 q3
    go_wp2_with fail
    refine (fput_ok _ 1 1 ps.length _ (by rw [Q1.out]; unfold big; omega) (by omega) (by omega) (by rw [Q1.out]; omega) (by omega)).mono ?_
    rw [P1.out]
    rintro e w3 ⟨rfl, hb3⟩
    replace hb3 := keepBelow hb2 hb3
    generalize stB ([76] ++ leBytes 1 ps.length) N = s1 at *
    go_wp2_with fail
    refine (fput_ok _ 2 2 nx _ (by rw [Q2.out]; unfold big; omega) (by omega) (by omega) (by rw [Q2.out]; omega) (by omega)).mono ?_
    rw [P2.out]
    rintro e w4 ⟨rfl, hb4⟩
    replace hb4 := keepBelow hb3 hb4
    generalize stB ([76] ++ leBytes 1 ps.length ++ leBytes 2 nx) N = s2 at *
    go_wp2_with fail
    refine (fputtext_ok _ high 4 _ (by rw [Q3.out]; unfold big; omega) (by omega) (by rw [Q3.out]; omega)).mono ?_
    rw [P3.out]
    rintro e w5 ⟨rfl, hb5⟩
    replace hb5 := keepBelow hb4 hb5
    go_wp2_with fail
    go_loopw [3, 5, 48] (fun s p i wr => ∃ k : Nat, k ≤ ps.length ∧ i = .int .i64 k ∧ s = .string (stB (headBytes ⟨ps, high, nx⟩ ++ pairBytes (ps.take k)) N) ∧ p = .int .i64 (5 + high.size + pairsSize (ps.take k) : Nat) ∧ Below W.heap.size W wr)
      (fun _ _ i _ => ps.length - (intOf i).toNat)
    case atStart =>
      refine ⟨0, Nat.zero_le _, rfl, by simp [pairBytes], by simp [pairsSize]; go_num, hb5⟩
    case round =>
      obtain ⟨k, hk, rfl, rfl, rfl, hbw⟩ := hrel
      by_cases hlt : k < ps.length
      · obtain ⟨p, hpk⟩ : ∃ p, ps[k]? = some p := ⟨_, List.getElem?_eq_getElem hlt⟩
        obtain ⟨b, off, rfl, hb, hc1, hc2⟩ := (HP.out.below hbw).pair hpk
        obtain ⟨hs1, hs2, hs3⟩ := HSZ.out p (List.mem_of_getElem? hpk)
        have hsucc := pairsSize_succ ps k p hpk
        have hle := pairsSize_take_le ps (k + 1)
        have hN5 := HN.out
        have hpre : (headBytes ⟨ps, high, nx⟩ ++ pairBytes (ps.take k)).length = 5 + high.size + pairsSize (ps.take k) := by
          rw [List.length_append, headBytes_length, pairBytes_length]
        have hps : headBytes ⟨ps, high, nx⟩ ++ pairBytes (ps.take (k + 1)) = headBytes ⟨ps, high, nx⟩ ++ pairBytes (ps.take k) ++ textBytes p.1 ++ textBytes p.2 := by
          rw [pairBytes_succ ps k p hpk]; simp only [List.append_assoc]
        have HS := Lib.hid hsucc
        have HPS := Lib.hid hps
        have hm : 5 + high.size + pairsSize (ps.take k) + (2 + p.1.size + p.2.size) ≤ N := by omega
        generalize hm0 : 5 + high.size + pairsSize (ps.take k) = m at *
        have HM := Lib.hid hm0
        generalize headBytes ⟨ps, high, nx⟩ ++ pairBytes (ps.take k) = pre at *
        have e1 : bs (overL (bl (stB pre N)) m (textBytes p.1)) = stB (pre ++ textBytes p.1) N := by
          rw [← hpre]; exact stB_over (by rw [textBytes_length]; omega)
        have e2 : bs (overL (bl (stB (pre ++ textBytes p.1) N)) (m + p.1.size + 1) (textBytes p.2)) = stB (pre ++ textBytes p.1 ++ textBytes p.2) N := by
          have := stB_over (pre := pre ++ textBytes p.1) (t := textBytes p.2) (N := N) (by rw [List.length_append, textBytes_length, textBytes_length]; omega)
          rw [List.length_append, textBytes_length, hpre] at this
          exact this
        have s1 := stB_size (pre := pre) (N := N) (by omega)
        have s2 := stB_size (pre := pre ++ textBytes p.1) (N := N) (by rw [List.length_append, textBytes_length]; omega)
        have E1 := Lib.hid e1
        have E2 := Lib.hid e2
        have S1 := Lib.hid s1
        have S2 := Lib.hid s2
        clear hpk hsucc hle hN5 hpre hps hm0 e1 e2 s1 s2
        have hz := hbw.size
        go_wp2_with fail
        refine (fputtext_ok _ p.1 m _ (by rw [S1.out]; unfold big; omega) (by omega) (by rw [S1.out]; omega)).mono ?_
        rw [E1.out]
        rintro e w6 ⟨rfl, hb6⟩
        have hbx := (bcell hb6).1
        replace hb6 := keepBelow (hbw.alloc hz _) hb6
        go_wp2_with fail
        refine (fputtext_ok _ p.2 (m + p.1.size + 1) _ (by rw [S2.out]; unfold big; omega) (by omega) (by rw [S2.out]; omega)).mono ?_
        rw [E2.out]
        rintro e w7 ⟨rfl, hb7⟩
        replace hb7 := keepBelow hb6 hb7
        clear hbx
        go_wp2_with fail
        go_roundw
        case rel =>
          refine ⟨k + 1, by omega, by go_num, by rw [HPS.out]; simp only [List.append_assoc], ?_, hb7⟩
          have := HM.out
          have := HS.out
          congr 1
          omega
        case measure => simp [intOf]; omega
      · obtain rfl : k = ps.length := by omega
        go_wp2_with fail
        go_ret
        refine ⟨?_, hb0.trans (hbw.mono (by omega))⟩
        have e1 : stB (headBytes ⟨ps, high, nx⟩ ++ pairBytes (ps.take ps.length)) N = bs (encBytes ⟨ps, high, nx⟩) := by
          rw [List.take_length]
          exact stB_full (by rw [show headBytes ⟨ps, high, nx⟩ ++ pairBytes ps = encBytes ⟨ps, high, nx⟩ from rfl, encBytes_length, HN.out])
        rw [← e1]; rfl
end Go.Proofs.YtabngdpijbpgeaaGreat
