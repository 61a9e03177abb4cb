/- leaf.read on a leaf's bytes, and on bytes that begin otherwise. -/
import Derived.Test.YtabngdpijbpgeaaGreatEncA
import Derived.WalkMore
set_option linter.unusedVariables false
set_option linter.unusedSimpArgs false
namespace Go.Proofs.YtabngdpijbpgeaaGreat
open Go Go.RowKit

theorem lenAt_text {A B : List UInt8} {t : ByteArray} (ht : t.size ≤ 255) : lenAt (bs (A ++ textBytes t ++ B)) A.length = t.size := by
  unfold lenAt
  rw [bl_bs, List.getD, List.append_assoc, List.getElem?_append_right (Nat.le_refl _), Nat.sub_self]
  show (UInt8.ofNat t.size).toNat = t.size
  rw [UInt8.toNat_ofNat']; omega
theorem extract_text {A B : List UInt8} {t : ByteArray} : (bs (A ++ textBytes t ++ B)).extract (A.length + 1) (A.length + 1 + t.size) = t := by
  apply ByteArray.ext
  apply Array.ext'
  have hl : t.data.toList.length = t.size := bl_length t
  show ((bs (A ++ textBytes t ++ B)).extract (A.length + 1) (A.length + 1 + t.size)).data.toList = t.data.toList
  rw [ByteArray.data_extract]
  simp only [bs, textBytes, bl, List.extract_toArray, List.extract_eq_take_drop]
  rw [show A.length + 1 + t.size - (A.length + 1) = t.size by omega]
  rw [show A ++ UInt8.ofNat t.size :: t.data.toList ++ B = (A ++ [UInt8.ofNat t.size]) ++ (t.data.toList ++ B) by simp]
  rw [List.drop_left' (by simp), List.take_left' hl]
theorem leNat_leBytes : ∀ k n, n < 256 ^ k → leNat (leBytes k n) = n
  | 0, n, h => by simp at h; subst h; rfl
  | k + 1, n, h => by
    have e : (UInt8.ofNat (n % 256)).toNat = n % 256 := by rw [UInt8.toNat_ofNat']; omega
    simp only [leBytes, leNat, e]
    rw [leNat_leBytes k (n / 256) (by rw [Nat.pow_succ] at h; omega)]
    omega
theorem get_mid {A X B : List UInt8} {p k : Nat} (hp : A.length = p) (hk : X.length = k) : ((bl (bs (A ++ X ++ B))).drop p).take k = X := by
  rw [bl_bs, List.append_assoc, List.drop_left' hp, List.take_left' hk]
theorem enc_split {l : LeafD} {k : Nat} {p : Pair} (h : l.pairs[k]? = some p) :
    encBytes l = (headBytes l ++ pairBytes (l.pairs.take k)) ++ textBytes p.1 ++ (textBytes p.2 ++ pairBytes (l.pairs.drop (k + 1))) := by
  have e : l.pairs = l.pairs.take k ++ p :: l.pairs.drop (k + 1) := by
    have hk := (List.getElem?_eq_some_iff.1 h).1
    have hp := (List.getElem?_eq_some_iff.1 h).2
    rw [← hp, List.getElem_cons_drop, List.take_append_drop]
  unfold encBytes
  conv => lhs; rw [e]
  rw [pairBytes_append]
  simp only [pairBytes, List.append_assoc]

/-- Get at a place, of any bytes: a number or an error. -/
theorem fget_at (s : ByteArray) (p k : Nat) (w : World) (hs : s.size ≤ big) (h1 : 1 ≤ k) (h8 : k ≤ 8) :
    Calls Tryz.prog 214 #[.string s, .int .i64 p, .int .i64 k] w fun e w' => ∃ n err : Int, e = .returned (.tuple #[.int .u64 n, .int .i64 err]) ∧ w = w' := by
  by_cases h : p + k ≤ s.size
  · exact (fget_ok s p k w hs h1 h8 h).mono fun e w' ⟨he, hw⟩ => ⟨_, _, he, hw⟩
  · refine (fget_err s p k w hs ?_).mono fun e w' ⟨he, hw⟩ => ⟨_, _, he, hw⟩
    unfold roomE
    split
    · omega
    · rename_i hn
      rw [if_pos (by omega)]; omega
theorem ftext_at (s : ByteArray) (p : Nat) (w : World) (hs : s.size ≤ big) :
    Calls Tryz.prog 71 #[.string s, .int .i64 p] w fun e w' => ∃ (x : ByteArray) (n err : Int), e = .returned (.tuple #[.string x, .int .i64 n, .int .i64 err]) ∧ w = w' := by
  by_cases h : p < s.size ∧ p + 1 + lenAt s p ≤ s.size
  · exact (ftext_ok s p w hs h.1 h.2).mono fun e w' ⟨he, hw⟩ => ⟨_, _, _, he, hw⟩
  · refine (ftext_err s p w hs (fun h' => h ⟨by omega, by have := h'.2.2; rw [Int.toNat_natCast] at this; omega⟩)).mono fun e w' ⟨he, hw⟩ => ⟨_, _, _, he, hw⟩

set_option maxRecDepth 100000 in
set_option maxHeartbeats 2000000 in
/-- Bytes that do not begin as a leaf's do. -/
theorem leafread_no (s : ByteArray) (w : World) (hs : s.size ≤ big) (h0 : 0 < s.size) (h1 : s[0] ≠ 76) :
    Calls Tryz.prog 175 #[.string s] w fun e w' => e = .returned (.tuple #[.agg #[.slice none 0 0, .string emptyS, .int .i64 0], .int .i64 0, .bool false]) ∧ Below w.heap.size w w' := by
  have hb76 : ((s[0].toNat : Int) != 76) = true := by
    rw [bne_iff_ne]; intro h; apply h1
    apply UInt8.toNat_inj.1
    have : (76 : UInt8).toNat = 76 := rfl
    omega
  clear h1
  go_enter Tryz.func175, Tryz.ntmps175
  go_wp2_with fail
  generalize hW : World.alloc w _ = W
  obtain ⟨hb0, hlt0, hy⟩ := boxes1 hW
  have HY := Lib.hid hy
  have hb9 := Below.refl W.heap.size W
  have hboy := boxR hy
  have hfry := frzR hy
  clear hW hy
  go_step3
  go_wp2_with fail
  refine (fget_at s 1 1 _ hs (by omega) (by omega)).mono ?_
  rintro e w' ⟨n1, e1, rfl, rfl⟩
  go_wp2_with fail
  refine (fget_at s 2 2 _ hs (by omega) (by omega)).mono ?_
  rintro e w' ⟨n2, e2, rfl, rfl⟩
  go_wp2_with fail
  refine (ftext_at s 4 _ hs).mono ?_
  rintro e w' ⟨x3, n3, e3, rfl, rfl⟩
  go_wp2_with fail
  all_goals
    rw [Exit.noGoto_ret]
    refine bodyPost_ret (v := .tuple #[.agg #[.slice none 0 0, .string emptyS, .int .i64 0], .int .i64 0, .bool false]) ?_ rfl ⟨rfl, ?_⟩
    · simp [results, Tryz.results175, go_sem, *]; rfl
    · exact ((hb0.setCell (by simp) _).setCell (by simp) _).setCell (by simp) _

set_option maxRecDepth 100000 in
set_option maxHeartbeats 2000000 in
theorem leafread_ok (l : LeafD) (w : World) (hR : rightL l = true) :
    Calls Tryz.prog 175 #[.string (bs (encBytes l))] w
      fun e w' => ∃ v, e = .returned (.tuple #[v, .int .i64 ((encBytes l).length : Nat), .bool true]) ∧ LeafN w.heap.size w' v l ∧ Below w.heap.size w w' := by
  have hl := right_LB hR
  have hc := right_count hR
  have hh := right_high hR
  obtain ⟨hok, _, hn0, hn1, hsz⟩ := right_parts hR
  have hsizes := okPairs_sizes hok
  obtain ⟨ps, high, next⟩ := l
  obtain ⟨nx, rfl⟩ := Int.eq_ofNat_of_zero_le hn0
  dsimp only at *
  have hnx : nx ≤ 1024 := by omega
  obtain ⟨N, hN⟩ : ∃ N : Nat, N = 5 + high.size + pairsSize ps := ⟨_, rfl⟩
  have hlen : (bs (encBytes ⟨ps, high, nx⟩)).size = N := by rw [bs_size, encBytes_length, hN]
  have g1 : leNat (((bl (bs (encBytes ⟨ps, high, nx⟩))).drop 1).take 1) = ps.length := by
    rw [show encBytes ⟨ps, high, (nx : Int)⟩ = [76] ++ leBytes 1 ps.length ++ (leBytes 2 nx ++ textBytes high ++ pairBytes ps) by simp [encBytes, headBytes], get_mid (A := [76]) (p := 1) rfl (leBytes_length _ _), leNat_leBytes _ _ (by omega)]
  have g2 : leNat (((bl (bs (encBytes ⟨ps, high, nx⟩))).drop 2).take 2) = nx := by
    rw [show encBytes ⟨ps, high, (nx : Int)⟩ = ([76] ++ leBytes 1 ps.length) ++ leBytes 2 nx ++ (textBytes high ++ pairBytes ps) by simp [encBytes, headBytes], get_mid (by simp [leBytes_length]) (leBytes_length _ _), leNat_leBytes _ _ (by omega)]
  have e4 : encBytes ⟨ps, high, (nx : Int)⟩ = ([76] ++ leBytes 1 ps.length ++ leBytes 2 nx) ++ textBytes high ++ pairBytes ps := by simp [encBytes, headBytes]
  have l4 : ([76] ++ leBytes 1 ps.length ++ leBytes 2 nx : List UInt8).length = 4 := by simp [leBytes_length]
  have t1 : lenAt (bs (encBytes ⟨ps, high, nx⟩)) 4 = high.size := by rw [e4, ← l4]; exact lenAt_text (by omega)
  have t2 : (bs (encBytes ⟨ps, high, nx⟩)).extract 5 (5 + high.size) = high := by rw [e4, show 5 = ([76] ++ leBytes 1 ps.length ++ leBytes 2 nx : List UInt8).length + 1 by rw [l4]]; exact extract_text
  have tk : ∀ (k : Nat) (p : Pair), ps[k]? = some p → lenAt (bs (encBytes ⟨ps, high, nx⟩)) (5 + high.size + pairsSize (ps.take k)) = p.1.size ∧
      (bs (encBytes ⟨ps, high, nx⟩)).extract (5 + high.size + pairsSize (ps.take k) + 1) (5 + high.size + pairsSize (ps.take k) + 1 + p.1.size) = p.1 ∧
      lenAt (bs (encBytes ⟨ps, high, nx⟩)) (5 + high.size + pairsSize (ps.take k) + 1 + p.1.size) = p.2.size ∧
      (bs (encBytes ⟨ps, high, nx⟩)).extract (5 + high.size + pairsSize (ps.take k) + 1 + p.1.size + 1) (5 + high.size + pairsSize (ps.take k) + 1 + p.1.size + 1 + p.2.size) = p.2 ∧
      5 + high.size + pairsSize (ps.take k) + 1 + p.1.size + 1 + p.2.size ≤ N ∧ 5 + high.size + pairsSize (ps.take (k + 1)) = 5 + high.size + pairsSize (ps.take k) + 1 + p.1.size + 1 + p.2.size := by
    intro k p hp
    have hpm := hsizes p (List.mem_of_getElem? hp)
    have es := enc_split (l := ⟨ps, high, (nx : Int)⟩) hp
    have hl1 : (headBytes ⟨ps, high, (nx : Int)⟩ ++ pairBytes (ps.take k)).length = 5 + high.size + pairsSize (ps.take k) := by rw [List.length_append, headBytes_length, pairBytes_length]
    have hsu := pairsSize_succ ps k p hp
    have hle := pairsSize_take_le ps (k + 1)
    dsimp only at es
    rw [es]
    have es2 : headBytes ⟨ps, high, (nx : Int)⟩ ++ pairBytes (ps.take k) ++ textBytes p.1 ++ (textBytes p.2 ++ pairBytes (ps.drop (k + 1))) = (headBytes ⟨ps, high, (nx : Int)⟩ ++ pairBytes (ps.take k) ++ textBytes p.1) ++ textBytes p.2 ++ pairBytes (ps.drop (k + 1)) := by simp only [List.append_assoc]
    have hl2 : (headBytes ⟨ps, high, (nx : Int)⟩ ++ pairBytes (ps.take k) ++ textBytes p.1).length = 5 + high.size + pairsSize (ps.take k) + 1 + p.1.size := by rw [List.length_append, hl1, textBytes_length]; omega
    refine ⟨?_, ?_, ?_, ?_, by omega, by omega⟩
    · rw [← hl1]; exact lenAt_text (by omega)
    · rw [← hl1]; exact extract_text
    · rw [es2, ← hl2]; exact lenAt_text (by omega)
    · rw [es2, ← hl2]; exact extract_text
  have h0 : 0 < (bs (encBytes ⟨ps, high, nx⟩)).size := by omega
  have hfirst : (bs (encBytes ⟨ps, high, nx⟩))[0] = 76 := rfl
  have hN2 : N ≤ 252 := by omega
  rw [show ((encBytes ⟨ps, high, (nx : Int)⟩).length : Nat) = N by rw [← hlen, bs_size]]
  generalize bs (encBytes ⟨ps, high, nx⟩) = s at *
  clear e4 l4 hR hok hsizes
  have HLEN := Lib.hid hlen
  have HG1 := Lib.hid g1
  have HG2 := Lib.hid g2
  have HT1 := Lib.hid t1
  have HT2 := Lib.hid t2
  have HTK := Lib.hid tk
  have HN := Lib.hid hN
  have HL := Lib.hid hl
  have hlen2 : s.size ≤ 252 := by omega
  have hlen3 : 5 + high.size ≤ s.size := by omega
  have hb76 : ((s[0].toNat : Int) != 76) = false := by rw [hfirst]; rfl
  clear hlen g1 g2 t1 t2 tk hN hl hfirst
  go_enter Tryz.func175, Tryz.ntmps175
  go_wp2_with fail
  generalize hW : World.alloc w _ = W
  obtain ⟨hb0, hlt0, hy⟩ := boxes1 hW
  have HY := Lib.hid hy
  clear hW hy
  go_step3
  go_wp2_with fail
  refine (fget_ok s 1 1 _ (by unfold big; omega) (by omega) (by omega) (by omega)).mono ?_
  rw [HG1.out]
  rintro e w' ⟨rfl, rfl⟩
  go_wp2_with fail
  refine (fget_ok s 2 2 _ (by unfold big; omega) (by omega) (by omega) (by omega)).mono ?_
  rw [HG2.out]
  rintro e w' ⟨rfl, rfl⟩
  go_wp2_with fail
  refine (ftext_ok s 4 _ (by unfold big; omega) (by omega) (by rw [HT1.out]; omega)).mono ?_
  rw [HT1.out, HT2.out]
  rintro e w' ⟨rfl, rfl⟩
  go_wp2_with fail
  go_step3
  go_wp2_with fail
  obtain ⟨i, hi, hz, hs, hby⟩ := info_parts infoPair
  have HI := Lib.hid hi
  have HZ := Lib.hid hz
  have HS := Lib.hid hs
  have HBY := Lib.hid hby
  clear hi hz hs hby
  have i0 : ∀ (x0 x1 : Value) (w : World), (Instr.index 271 (.agg #[x0, x1]) (.int .i64 0)).run Tryz.prog w = .ok x0 w := fun _ _ _ => by kernel_rfl
  have i1 : ∀ (x0 x1 : Value) (w : World), (Instr.index 271 (.agg #[x0, x1]) (.int .i64 1)).run Tryz.prog w = .ok x1 w := fun _ _ _ => by kernel_rfl
  go_loopw [10, 13, 57] (fun p ok i wr => ∃ k : Nat, k ≤ ps.length ∧ i = .int .u64 k ∧ p = .int .i64 (5 + high.size + pairsSize (ps.take k) : Nat) ∧ ok = .bool true ∧
      ∃ a cap, Hid (wr.heap[W.heap.size]? = some (.cells #[.slice a k cap, .string high, .int .i64 nx] 120 (0, 0))) ∧ Hid (wr.ownsRow (W.heap.size + 1) 41 2 (.slice a k cap) k (pairCells (ps.take k))) ∧ Below W.heap.size W wr ∧ W.heap.size < wr.heap.size)
    (fun _ _ i _ => ps.length - (intOf i).toNat)
  case atStart =>
    refine ⟨0, Nat.zero_le _, rfl, by simp [pairsSize], rfl, none, 0, heap_alloc_new W _, World.ownsRow_nil _ _ _ _, (Below.refl _ _).alloc (Nat.le_refl _) _, by simp⟩
  case round =>
    obtain ⟨k, hk, rfl, rfl, rfl, a, cap, hbx, hown, hbw, hsz2⟩ := hrel
    by_cases hlt : k < ps.length
    · obtain ⟨p, hpk⟩ : ∃ p, ps[k]? = some p := ⟨_, List.getElem?_eq_getElem hlt⟩
      obtain ⟨k1, k2, k3, k4, k5, k6⟩ := HTK.out k p hpk
      have K1 := Lib.hid k1
      have K2 := Lib.hid k2
      have K3 := Lib.hid k3
      have K4 := Lib.hid k4
      have K6 := Lib.hid k6
      have HPK := Lib.hid hpk
      have k5' : 5 + high.size + pairsSize (ps.take k) + 1 + p.1.size + 1 + p.2.size ≤ s.size := by have := HLEN.out; omega
      generalize hm0 : 5 + high.size + pairsSize (ps.take k) = m at *
      have HM := Lib.hid hm0
      clear k1 k2 k3 k4 k5 k6 hpk hm0
      have hc0 : wr.cell? ⟨W.heap.size, 0, none⟩ = some (.slice a k cap) := cell_of_heap hbx.out
      have hf0 : wr.frozen? ⟨W.heap.size, 0, none⟩ = false := frozen_of_heap hbx.out
      have hcl : (wr.alloc (.cells #[.string emptyS, .string emptyS] 41)).heap[wr.heap.size]? = some (.cells #[.string emptyS, .string emptyS] 41 (0, 0)) := heap_alloc_new _ _
      go_wp2_with fail
      refine wp_loop_rounds 3 ?_
      rw [rounds_succ]
      go_wp2_with fail
      refine (ftext_int s _ m _ (by omega) (by unfold big; omega) (by omega) (by rw [K1.out]; omega)).mono ?_
      rw [K1.out, K2.out]
      rintro e w' ⟨rfl, rfl⟩
      go_wp2_with fail
      rw [rounds_succ]
      go_wp2_with fail
      refine (ftext_int s _ (m + 1 + p.1.size) _ (by omega) (by unfold big; omega) (by omega) (by rw [K3.out]; omega)).mono ?_
      rw [K3.out, K4.out]
      rintro e w' ⟨rfl, rfl⟩
      go_wp2_with fail
      rw [rounds_succ]
      go_wp2_with (
        (at_builtin; refine wpList_append_row _ rfl (.tmp 80) (.tmp 82) 46 rfl (W.heap.size + 1) 41 i _ 2 32 Tryz.underlying46 HI.out HZ.out HS.out HBY.out rfl (by omega) _ k _ rfl ((hown.out.alloc _).alloc _) (some ⟨wr.heap.size + 1, 0, none⟩) 1 1 41 [.string p.1, .string p.2] rfl (by simpa using rowLit (wr.alloc (.cells #[.string p.1, .string p.2] 41)) 41 2 1 #[.string p.1, .string p.2] rfl (by unfold maxLen; omega)) (by simp [Value.oneCell']) (by unfold maxLen; omega) (by omega) (by simp; omega) ?_; intro v5 W5 hown5 hgr5; obtain ⟨a5, cap5, rfl, -, -⟩ := ownsRow_fresh hown5; have hbx5 : W5.heap[W.heap.size]? = some (.cells #[.slice a k cap, .string high, .int .i64 nx] 120 (0, 0)) := (hgr5.block _ (by simp; omega) (fun e => by have := (hown.out.lt _ e.symm).1; omega)).trans (alloc_old (alloc_old hbx.out)); have hc5 := cell_of_heap (o := 0) hbx5; have hf5 := frozen_of_heap (o := 0) hbx5; have HBX5 := Lib.hid hbx5; have HOWN5 := Lib.hid hown5; have HGR5 := Lib.hid hgr5; clear hbx5 hown5 hgr5))
      go_roundw
      case rel =>
        refine ⟨k + 1, by omega, by go_num, ?_, rfl, a5, cap5, ?_, ?_, ?_, ?_⟩
        · have := K6.out
          congr 1
          omega
        · show _ = _
          rw [heap_setCell HBX5.out]; simp
        · show World.ownsRow _ _ _ _ _ _ _
          have e : pairCells (ps.take (k + 1)) = pairCells (ps.take k) ++ [.string p.1, .string p.2] := by
            rw [List.take_add_one, HPK.out, Option.toList_some, pairCells_append]; rfl
          rw [e]
          exact ownsRow_setCell_below HOWN5.out (by simp) _
        · exact (((hbw.alloc hbw.size _).alloc (by have := hbw.size; simp; omega) _).grown HGR5.out (by have := hbw.size; simp; omega) (fun j hj => by have := (hown.out.lt j hj).1; omega)).setCell (Nat.le_refl _) _
        · have := HGR5.out.size
          rw [size_setCell]
          simp at this
          omega
      case measure => simp [intOf]; omega
    · obtain rfl : k = ps.length := by omega
      have hb9 := Below.refl wr.heap.size wr
      have hbox := boxR hbx.out
      have hy9 : wr.heap[w.heap.size]? = _ := heapR HY.out hbw
      have hboy := boxR hy9
      have hfry := frzR hy9
      clear hy9
      go_wp2_with fail
      obtain ⟨a9, cap9, e9, hrow9, hfr9⟩ := ownsRow_fresh hown.out
      injection e9 with e9 _ e10
      subst e9; subst e10
      rw [List.take_length] at hrow9
      have hne : ∀ ad, a = some ad → ad.block ≠ w.heap.size := fun ad ha => by have := hfr9 ad ha; omega
      rw [Exit.noGoto_ret]
      refine bodyPost_ret (v := .tuple #[.agg #[.slice a ps.length cap, .string high, .int .i64 nx], .int .i64 N, .bool true]) ?_ rfl ⟨_, rfl, ⟨a, cap, rfl, ((hrow9.set hne).set hne).set hne, fun ad ha => by have := hfr9 ad ha; omega⟩, ?_⟩
      · rw [List.take_length]
        simp [results, Tryz.results175, go_sem, HN.out, *]
      · exact (((hb0.trans (hbw.mono (by omega))).setCell (by simp) _).setCell (by simp) _).setCell (by simp) _
end Go.Proofs.YtabngdpijbpgeaaGreat
