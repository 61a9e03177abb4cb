/- tree.Scan: the pairs from a key on, of leaves in a row. -/
import Derived.Test.YtabngdpijbpgeaaGreatTreeA
import Derived.Deep.AppendLies
set_option linter.unusedVariables false
set_option linter.unusedSimpArgs false
namespace Go.Proofs.YtabngdpijbpgeaaGreat
open Go Go.RowKit

def takeFrom (f : ByteArray) (n : Int) (l : List Pair) : List Pair := (l.filter fun p => !ltB p.1 f).take n.toNat
theorem takeFrom_snoc (f : ByteArray) (n : Int) (l : List Pair) (p : Pair) :
    takeFrom f n (l ++ [p]) = if !ltB p.1 f && decide (((takeFrom f n l).length : Int) < n) then takeFrom f n l ++ [p] else takeFrom f n l := by
  unfold takeFrom
  rw [List.filter_append]
  cases hp : !ltB p.1 f
  · simp [List.filter_cons, hp]
  · simp only [List.filter_cons, hp, List.filter_nil, if_true, Bool.true_and, List.length_take, decide_eq_true_eq]
    generalize l.filter (fun p => !ltB p.1 f) = m
    split
    · rw [List.take_of_length_le (by simp; omega), List.take_of_length_le (by omega)]
    · rw [List.take_append_of_le_length (by omega)]
theorem takeFrom_length (f : ByteArray) (n : Int) (l : List Pair) : (takeFrom f n l).length ≤ l.length := by
  unfold takeFrom
  have := List.length_filter_le (fun p : Pair => !ltB p.1 f) l
  simp only [List.length_take]; omega

theorem Row.grown {w w' : World} {ty sz : Nat} {a : Option Addr} {n cap : Nat} {cs : List Value} (h : Row w ty sz a n cap cs) {ob : Option Nat} (hg : w.grownBy w' ob) (hne : ∀ ad g, a = some ad → ob = some g → ad.block ≠ g) : Row w' ty sz a n cap cs := by
  obtain ⟨h1, h2, h3, h4, h5, h6⟩ := h
  refine ⟨h1, h2, h3, h4, h5, ?_⟩
  rcases h6 with h6 | ⟨b, off, c, fz, ha, hh, hc⟩
  · exact .inl h6
  · refine .inr ⟨b, off, c, fz, ha, ?_, hc⟩
    rw [hg.block b (heap_lt hh) (fun e => hne _ b ha e.symm rfl)]; exact hh
theorem Row.lt {w : World} {ty sz : Nat} {a : Option Addr} {n cap : Nat} {cs : List Value} (h : Row w ty sz a n cap cs) (hn : cs ≠ []) : ∀ ad, a = some ad → ad.block < w.heap.size := by
  intro ad ha
  rcases h.sl with h6 | ⟨b, off, c, fz, ha', hh, hc⟩
  · exact absurd h6 hn
  · rw [ha] at ha'; injection ha' with e; rw [e]; exact heap_lt hh

theorem ownsRow_below {W w1 : World} {base size k : Nat} {e : TypeId} {v : Value} {xs : List Value} (hr : W.ownsRow base e size v k xs) (hb : Below W.heap.size W w1) : w1.ownsRow base e size v k xs := by
  refine ⟨hr.1, hr.2.imp id ?_⟩
  rintro ⟨g, cap, cur, h1, h2, h3, h4⟩
  exact ⟨g, cap, cur, h1, h2, (hb.block g (heap_lt h3)).trans h3, h4⟩
theorem ownsRow_lt {W : World} {base size k : Nat} {e : TypeId} {v : Value} {xs : List Value} (hr : W.ownsRow base e size v k xs) : ∀ g, v.ownBlock = some g → base ≤ g ∧ g < W.heap.size := by
  intro g hg
  rcases hr.2 with ⟨rfl, _⟩ | ⟨g', cap, cur, rfl, h2, h3, _⟩
  · simp [Value.ownBlock] at hg
  · obtain rfl : g' = g := by simpa [Value.ownBlock] using hg
    exact ⟨h2, heap_lt h3⟩
/-- A slice's row and a row that grows lie apart. -/
def Apart (v : Value) (a : Option Addr) : Prop := ∀ ad g, a = some ad → v.ownBlock = some g → ad.block ≠ g
/-- What an append to an own row leaves. -/
theorem below_grown {n : Nat} {W w' : World} {base size k : Nat} {e : TypeId} {v : Value} {xs : List Value} (hr : W.ownsRow base e size v k xs) (hg : W.grownBy w' v.ownBlock) (hn : n ≤ base) (hs : n ≤ W.heap.size) : Below n W w' :=
  (Below.refl n W).grown hg (by omega) fun j ej => by have := (ownsRow_lt hr j ej).1; omega

/-- The leaves' pages and what they are. -/
abbrev Leafs := List (Nat × LeafD)
def pairsOf (ps : Leafs) : List Pair := ps.flatMap fun x => x.2.pairs
def LeafsAt (h : Has) (ps : Leafs) : Prop := ∀ x ∈ ps, h x.1 = some (encS x.2) ∧ rightL x.2 = true
theorem pairsOf_succ {ps : Leafs} {k : Nat} {x : Nat × LeafD} (hk : ps[k]? = some x) : pairsOf (ps.take (k + 1)) = pairsOf (ps.take k) ++ x.2.pairs := by
  unfold pairsOf
  rw [List.take_add_one, hk, List.flatMap_append]; simp
theorem pairsOf_length {h : Has} {ps : Leafs} (hp : LeafsAt h ps) (k : Nat) : (pairsOf (ps.take k)).length ≤ ps.length * 77 := by
  induction ps generalizing k with
  | nil => simp [pairsOf]
  | cons x r ih =>
    cases k with
    | zero => simp [pairsOf]
    | succ k =>
      have h1 := ih (fun y hy => hp y (by simp [hy])) k
      have h2 := right_count (hp x (by simp)).2
      have e : (pairsOf ((x :: r).take (k + 1))).length = x.2.pairs.length + (pairsOf (r.take k)).length := by simp [pairsOf]
      rw [e, List.length_cons]; omega

set_option maxRecDepth 100000 in
set_option maxHeartbeats 2000000 in
theorem scan_any (t : Nat) (L : Locs) (N : Nat) (h : Has) (root : Nat) (ps : Leafs) (f : ByteArray) (n : Int) (w : World) (H : TreeAt w t L N h root) (hps : LeafsAt h ps) (hl : ps.length ≤ 1024)
    (HL : Calls Tryz.prog 46 #[.pointer (some ⟨t, 0, none⟩)] w fun e w' => ∃ a cap, e = .returned (.slice a ps.length cap) ∧ Row w' 3 1 a ps.length cap (ps.map fun x => pageCell x.1) ∧ Below w.heap.size w w') :
    Calls Tryz.prog 34 #[.pointer (some ⟨t, 0, none⟩), .string f, .int .i64 n] w fun e w' =>
      ∃ v, e = .returned v ∧ w'.ownsRow w.heap.size 41 2 v (takeFrom f n (pairsOf ps)).length (pairCells (takeFrom f n (pairsOf ps))) ∧ Below w.heap.size w w' := by
  have HLL := Lib.hid HL
  have HH := Lib.hid H
  have HPS := Lib.hid hps
  clear HL H hps
  go_enter Tryz.func34, Tryz.ntmps34
  go_wp2_with fail
  refine HLL.out.mono ?_
  rintro e w1 ⟨ap, capp, rfl, hrowp, hb1⟩
  have HRP := Lib.hid hrowp
  have HW := Lib.hid (HH.out.below hb1)
  clear hrowp
  go_wp2_with fail
  obtain ⟨i, hi, hz, hs, hby⟩ := info_parts infoPair
  have HI := Lib.hid hi
  have HZ := Lib.hid hz
  have HS := Lib.hid hs
  have HBY := Lib.hid hby
  clear hi hz hs hby
  go_loopw [7, 17] (fun v j wr => ∃ k : Nat, k ≤ ps.length ∧ j = .int .i64 k ∧ Hid (wr.ownsRow w1.heap.size 41 2 v (takeFrom f n (pairsOf (ps.take k))).length (pairCells (takeFrom f n (pairsOf (ps.take k))))) ∧ Below w1.heap.size w1 wr)
    (fun _ j _ => ps.length - (intOf j).toNat)
  case atStart =>
    refine ⟨0, Nat.zero_le _, rfl, ?_, Below.refl _ _⟩
    have e : takeFrom f n (pairsOf (ps.take 0)) = [] := by simp [takeFrom, pairsOf]
    rw [e]; exact World.ownsRow_nil _ _ _ _
  case round =>
    obtain ⟨k, hk, rfl, hown, hbw⟩ := hrel
    by_cases hlt : k < ps.length
    · obtain ⟨x, hpk⟩ : ∃ x, ps[k]? = some x := ⟨_, List.getElem?_eq_getElem hlt⟩
      obtain ⟨q1, q2⟩ := HPS.out x (List.mem_of_getElem? hpk)
      have hrd := read_leaf t L N h root x.1 x.2 wr (HW.out.below hbw) q1 q2
      have HRD := Lib.hid hrd
      obtain ⟨bp, op, rfl, hbp, hcp⟩ := HRP.out.sl.cell (i := k) (v := pageCell x.1) (by simp [hpk])
      have hcp1 : wr.cell? ⟨bp, op + k, none⟩ = some (.int .i64 x.1) := (hbw.cell (p := ⟨bp, op + k, none⟩) hbp).trans (hcp k (pageCell x.1) (by simp [hpk]))
      clear hrd hcp
      have hta := ta_leaf
      go_wp2_with (go_at_call 82; refine HRD.out.mono ?_; rintro e w2 ⟨v2, rfl, ⟨a2, cap2, rfl, hrow2, hfr2⟩, hb2⟩; have HR2 := Lib.hid hrow2; have HF2 := Lib.hid hfr2; clear hrow2 hfr2)
      clear hta
      generalize hW3 : World.alloc w2 _ = W3
      obtain ⟨hb3, hlt3, hx3⟩ := boxes1 hW3
      have HR3 := Lib.hid (HR2.out.below hb3)
      have hg3 := hown.out
      have hb4 := keepBelow hb2 hb3
      have hap : Apart u7 a2 := fun ad g ha hg => by have h1 := HF2.out ad ha; have h2 := ownsRow_lt hg3 g hg; omega
      have hown3 := Lib.hid (ownsRow_below hg3 hb4)
      have hap3 := Lib.hid hap
      have hb5 : Below w1.heap.size w1 W3 := hbw.trans (hb4.mono hbw.size)
      have hbox := boxR hx3
      have HX := Lib.hid (pairsOf_succ hpk)
      have hbW := Below.refl W3.heap.size W3
      clear hW3 hx3 hap hg3 hown hb2 hb3
      have hpl := pairsOf_length HPS.out k
      have hpl2 := right_count q2
      generalize pairsOf (ps.take k) = P at *
      go_loopw [7, 31] (fun v j wi => ∃ m : Nat, m ≤ x.2.pairs.length ∧ j = .int .i64 m ∧ Hid (wi.ownsRow w1.heap.size 41 2 v (takeFrom f n (P ++ x.2.pairs.take m)).length (pairCells (takeFrom f n (P ++ x.2.pairs.take m)))) ∧
          Hid (Row wi 41 2 a2 x.2.pairs.length cap2 (pairCells x.2.pairs)) ∧ Hid (Apart v a2) ∧ Below w1.heap.size w1 wi)
        (fun _ j _ => x.2.pairs.length - (intOf j).toNat)
      case atStart =>
        refine ⟨0, Nat.zero_le _, rfl, ?_, HR3, hap3, hb5⟩
        have e : P ++ x.2.pairs.take 0 = P := by simp
        rw [e]; exact hown3
      case round =>
        obtain ⟨m, hm, rfl, hown4, hrw4, hap4, hb6⟩ := hrel
        by_cases hlm : m < x.2.pairs.length
        · obtain ⟨p, hpm⟩ : ∃ p, x.2.pairs[m]? = some p := ⟨_, List.getElem?_eq_getElem hlm⟩
          obtain ⟨bq, oq, rfl, hbq, hq1, hq2⟩ := hrw4.out.sl.pair hpm
          have HSN := takeFrom_snoc f n (P ++ x.2.pairs.take m) p
          rw [show P ++ x.2.pairs.take m ++ [p] = P ++ x.2.pairs.take (m + 1) by rw [List.take_add_one, hpm, Option.toList_some, ← List.append_assoc]] at HSN
          have hxl : (takeFrom f n (P ++ x.2.pairs.take m)).length ≤ 1000000 := by
            have h1 := takeFrom_length f n (P ++ x.2.pairs.take m)
            have h2 : (x.2.pairs.take m).length ≤ m := List.length_take_le _ _
            rw [List.length_append] at h1; omega
          obtain ⟨X, hX⟩ : ∃ X, X = takeFrom f n (P ++ x.2.pairs.take m) := ⟨_, rfl⟩
          rw [← hX] at hown4 HSN hxl
          have HSN := Lib.hid HSN
          clear hX hpm
          obtain ⟨a7, cap7, rfl, hrow7, hfr7⟩ := ownsRow_fresh hown4.out
          clear hrow7 hfr7
          cases hB : Op.bytesLess p.1.toList f.toList
          · have hB' : (!Op.bytesLess p.1.toList f.toList) = true := by simp [hB]
            by_cases hln : (X.length : Int) < n
            · go_wp2_with (
                (at_builtin; refine wpList_append_lies _ rfl (.tmp 45) (.tmp 47) 46 rfl w1.heap.size 41 i _ 2 32 Tryz.underlying46 HI.out HZ.out HS.out HBY.out rfl (by omega) _ X.length _ rfl ((hown4.out.alloc _).alloc _) ⟨wr.heap.size + 1, 0, none⟩ 1 1 [.string p.1, .string p.2] rfl rfl (by have := World.news_of_block (heap_alloc_new (wr.alloc (.cells #[.string p.1, .string p.2] 41)) (.cells #[.string p.1, .string p.2] 41)); simpa using this) (by simp [Value.oneCell']) (by omega) (by unfold maxLen; omega) (by omega) (by have := hb6.size; simp; omega) _ rfl ?_; intro g5 cap5 W5 hown5 hgr5 hlie5 hg5))
              go_roundw
              case rel =>
                have hal : Below wr.heap.size wr ((wr.alloc (.cells #[.string p.1, .string p.2] 41)).alloc (.cells #[.string p.1, .string p.2] 41)) := ((Below.refl _ _).alloc (Nat.le_refl _) _).alloc (by simp) _
                have hown6 := ownsRow_below hown4.out hal
                have hbq' : bq < wr.heap.size := hbq
                have hz6 := hal.size
                refine ⟨m + 1, by omega, by go_num, ?_, ?_, ?_, ?_⟩
                · have e := HSN.out
                  rw [if_pos (by simp [ltB, hB, hln])] at e
                  rw [e, pairCells_append, List.length_append]
                  exact hown5
                · exact (hrw4.out.below hal).grown hgr5 (fun ad g ha hg => hap4.out ad g ha hg)
                · intro ad g ha hg
                  obtain rfl : g5 = g := by simpa [Value.ownBlock] using hg
                  rcases hlie5 with hl5 | hl5
                  · exact hap4.out ad _ ha hl5
                  · injection ha with ha; subst ha; show bq ≠ g5; omega
                · exact hb6.trans ((hal.mono (by have := hb6.size; omega)).trans (below_grown hown6 hgr5 (Nat.le_refl _) (by have := hb6.size; omega)))
              case measure => simp [intOf]; omega
            · go_wp2_with fail
              go_roundw
              case rel =>
                have hal : Below wr.heap.size wr (wr.alloc (.cells #[.string p.1, .string p.2] 41)) := (Below.refl _ _).alloc (Nat.le_refl _) _
                refine ⟨m + 1, by omega, by go_num, ?_, hrw4.out.below hal, hap4, hb6.trans (hal.mono (by have := hb6.size; omega))⟩
                have e := HSN.out
                rw [if_neg (by simp [hln])] at e
                rw [e]
                exact ownsRow_below hown4.out hal
              case measure => simp [intOf]; omega
          · have hB' : (!Op.bytesLess p.1.toList f.toList) = false := by simp [hB]
            go_wp2_with fail
            go_roundw
            case rel =>
              have hal : Below wr.heap.size wr (wr.alloc (.cells #[.string p.1, .string p.2] 41)) := (Below.refl _ _).alloc (Nat.le_refl _) _
              refine ⟨m + 1, by omega, by go_num, ?_, hrw4.out.below hal, hap4, hb6.trans (hal.mono (by have := hb6.size; omega))⟩
              have e := HSN.out
              rw [if_neg (by simp [ltB, hB])] at e
              rw [e]
              exact ownsRow_below hown4.out hal
            case measure => simp [intOf]; omega
        · obtain rfl : m = x.2.pairs.length := by omega
          go_wp2_with fail
          go_roundw
          case rel =>
            refine ⟨k + 1, by omega, by go_num, ?_, hb6⟩
            rw [HX.out]
            rw [List.take_length] at hown4
            exact hown4
          case measure => simp [intOf]; omega
    · obtain rfl : k = ps.length := by omega
      go_wp2
      go_ret
      rw [List.take_length] at hown
      exact ⟨_, rfl, ownsRow_base hown.out hb1.size, keepBelow hb1 hbw⟩
end Go.Proofs.YtabngdpijbpgeaaGreat
