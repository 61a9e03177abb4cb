/- Package cursor: Next, many, Rest. -/
import Derived.Test.YtabngdpijbpgeaaGreatCurA
set_option linter.unusedVariables false
set_option linter.unusedSimpArgs false
namespace Go.Proofs.YtabngdpijbpgeaaGreat
open Go Go.RowKit

/-- A tree, and the leaves that its Leaves tells, in whatever world. -/
structure TreeL (t : Nat) (L : Locs) (N : Nat) (h : Has) (root : Nat) (ps : Leafs) : Prop where
  leafs : LeafsAt h ps
  few : ps.length ≤ 1024
  told : ∀ w, TreeAt w t L N h root → Calls Tryz.prog 46 #[.pointer (some ⟨t, 0, none⟩)] w fun e w' => ∃ a cap, e = .returned (.slice a ps.length cap) ∧ Row w' 3 1 a ps.length cap (ps.map fun x => pageCell x.1) ∧ Below w.heap.size w w'

theorem scan_tree {t : Nat} {L : Locs} {N : Nat} {h : Has} {root : Nat} {ps : Leafs} (HL : TreeL t L N h root ps) (f : ByteArray) (n : Int) (w : World) (H : TreeAt w t L N h root) :
    Calls Tryz.prog 34 #[.pointer (some ⟨t, 0, none⟩), .string f, .int .i64 n] w fun e w' =>
      ∃ v, e = .returned v ∧ w'.ownsRow w.heap.size 41 2 v (takeFrom f n (pairsOf ps)).length (pairCells (takeFrom f n (pairsOf ps))) ∧ Below w.heap.size w w' :=
  scan_any t L N h root ps f n w H HL.leafs HL.few (HL.told w H)

def maxB (x y : ByteArray) : ByteArray := if ltB x y then y else x
theorem run_max_str (x y : ByteArray) (w : World) : (Builtin.max_ #[9, 9] 9 #[.string x, .string y]).run Tryz.prog w = .ok (.string (maxB x y)) w := by
  unfold maxB ltB
  simp only [Builtin.max_, List.foldlM_cons, List.foldlM_nil, Builtin.max2, go_sem]
  cases h : Op.bytesLess x.toList y.toList <;> simp [h, go_sem, Op.stringOp]

def nextGo (g l : ByteArray) : List Pair → Option Pair
  | [] => none
  | p :: r => if !g.toList.isEmpty && !ltB p.1 g then none else if l.toList.isEmpty || ltB l p.1 then some p else nextGo g l r
/-- What a cursor tells next, of pairs. -/
def nextC (f g l : ByteArray) (pairs : List Pair) : Option Pair := nextGo g l (takeFrom (maxB f l) 2 pairs)
def resP (o : Option Pair) : Value := .tuple #[.agg #[.string (o.getD (emptyS, emptyS)).1, .string (o.getD (emptyS, emptyS)).2], .bool o.isSome]
def lastP (l : ByteArray) (o : Option Pair) : ByteArray := (o.map (·.1)).getD l
theorem gtr_eq (a b : ByteArray) : (!Op.bytesLess a.toList b.toList && !a.toList == b.toList) = Op.bytesLess b.toList a.toList := by
  cases h : Op.bytesLess b.toList a.toList
  · cases h2 : Op.bytesLess a.toList b.toList
    · have : a.toList = b.toList := bl_total _ _ h2 h
      simp [this]
    · simp
  · have h2 : Op.bytesLess a.toList b.toList = false := lt_asymm (a := b) (b := a) h
    have h3 : (a.toList == b.toList) = false := by
      rw [beq_eq_false_iff_ne]; intro e; rw [e, bl_irrefl] at h; cases h
    simp [h2, h3]
structure NextPost (c : Nat) (f g l : ByteArray) (w : World) (o : Option Pair) (e : Ending) (w' : World) : Prop where
  ret : e = .returned (resP o)
  cur : CurAt w' c f g (lastP l o)
  mods : Mods (· = c) w w'
theorem CurAt.box {w : World} {c : Nat} {f g l : ByteArray} (h : CurAt w c f g l) {b : Nat} (hb : c ≠ b) (o1 o2 : Nat) (v1 v2 : Value) : CurAt ((w.setCell ⟨b, o1, none⟩ v1).setCell ⟨b, o2, none⟩ v2) c f g l :=
  (heap_setCell_ne hb).trans ((heap_setCell_ne hb).trans h)
theorem nextNone {c : Nat} {f g l : ByteArray} {w W1 : World} (h : CurAt W1 c f g l) (hc : c < w.heap.size) (hb : Below w.heap.size w W1) (v1 v2 : Value) {e : Ending} (he : e = .returned (resP none)) :
    NextPost c f g l w none e ((W1.setCell ⟨w.heap.size, 0, none⟩ v1).setCell ⟨w.heap.size, 1, none⟩ v2) :=
  ⟨he, h.box (by omega) _ _ _ _, Mods.of_below ((hb.setCell (Nat.le_refl _) _).setCell (Nat.le_refl _) _)⟩
theorem nextSome {c : Nat} {f g l : ByteArray} {w W1 : World} (h : CurAt W1 c f g l) (hc : c < w.heap.size) (hb : Below w.heap.size w W1) (p : Pair) (v1 v2 : Value) {e : Ending} (he : e = .returned (resP (some p))) :
    NextPost c f g l w (some p) e (((W1.setCell ⟨c, 2, none⟩ (.string p.1)).setCell ⟨w.heap.size, 0, none⟩ v1).setCell ⟨w.heap.size, 1, none⟩ v2) := by
  refine ⟨he, CurAt.box ?_ (by omega) _ _ _ _, ?_⟩
  · have := heap_setCell (i := 2) h (.string p.1)
    exact this
  · exact (((Mods.of_below (S := (· = c)) hb).set (p := ⟨c, 2, none⟩) (.inr rfl) _).set (p := ⟨w.heap.size, 0, none⟩) (.inl (Nat.le_refl _)) _).set (p := ⟨w.heap.size, 1, none⟩) (.inl (Nat.le_refl _)) _

set_option maxRecDepth 100000 in
set_option maxHeartbeats 1000000 in
theorem next_any (c t : Nat) (L : Locs) (N : Nat) (h : Has) (root : Nat) (ps : Leafs) (f g l : ByteArray) (w : World) (H : TreeAt w t L N h root) (HL : TreeL t L N h root ps) (hc : CurAt w c f g l) :
    Calls Tryz.prog 21 #[.pointer (some ⟨c, 0, none⟩), .pointer (some ⟨t, 0, none⟩)] w (NextPost c f g l w (nextC f g l (pairsOf ps))) := by
  have hb9 := Below.refl w.heap.size w
  have HH := Lib.hid H
  have HC := Lib.hid hc
  have HTL := Lib.hid HL
  have hcl := heap_lt hc
  have hmx := fun w' => run_max_str f l w'
  clear H HL hc
  obtain ⟨O, hO⟩ : ∃ O, O = nextC f g l (pairsOf ps) := ⟨_, rfl⟩
  rw [← hO]
  have HO := Lib.hid hO
  clear hO
  go_enter Tryz.func21, Tryz.ntmps21
  go_wp2_with fail
  generalize hW : World.alloc w _ = W
  obtain ⟨hb0, hlt0, hx⟩ := boxes1 hW
  have hfrz := frzR hx
  have hbox := boxR hx
  have HX := Lib.hid hx
  have hfc := frzR (HC.out.below hb0)
  have HCW := Lib.hid (HC.out.below hb0)
  have hbc : ∀ (w' : World) (o : Nat), Below W.heap.size W w' → w'.cell? ⟨c, o, none⟩ = (#[.string f, .string g, .string l] : Array Value)[o]? := boxR (HC.out.below hb0)
  have hb8 := Below.refl W.heap.size W
  have hsc := fun (f' : ByteArray) (w' : World) (hb : Below W.heap.size W w') => scan_tree HTL.out f' 2 w' ((HH.out.below hb0).below hb)
  have HSC := Lib.hid hsc
  clear hW hx hsc
  go_region_held3 (fun w' => Below W.heap.size W w')
    (first | exact (Below.refl _ _).drew | exact keepBelow (by assumption) (by assumption))
    ((go_at_call 34; refine (HSC.out _ _ (by assumption)).mono ?_; rintro e w1 ⟨v1, rfl, hown1, hb1⟩; obtain ⟨a1, cap1, rfl, hrow1, hfr1⟩ := ownsRow_fresh hown1; have HR1 := Lib.hid hrow1; have HF1 := Lib.hid hfr1; clear hown1 hrow1 hfr1))
  have hW1 : Below W.heap.size W w1 := by assumption
  clear hmx
  obtain ⟨X, hX⟩ : ∃ X, X = takeFrom (maxB f l) 2 (pairsOf ps) := ⟨_, rfl⟩
  have hXl : X.length ≤ 2 := by rw [hX]; unfold takeFrom; simp only [List.length_take]; omega
  have HOX := Lib.hid (show O = nextGo g l X by rw [HO.out, hX]; rfl)
  rw [← hX] at HR1
  rw [← hX]
  clear hX
  go_wp2_with fail
  go_loopw [20] (fun i wr => ∃ k : Nat, k ≤ X.length ∧ i = .int .i64 k ∧ Hid (O = nextGo g l (X.drop k)) ∧ Below w1.heap.size w1 wr)
    (fun i _ => X.length - (intOf i).toNat)
  case atStart => exact ⟨0, Nat.zero_le _, rfl, HOX, Below.refl _ _⟩
  case round =>
    obtain ⟨k, hk, rfl, HN, hbw⟩ := hrel
    have hbw2 := keepBelow hW1 hbw
    by_cases hlt : k < X.length
    · obtain ⟨p, hpk⟩ : ∃ p, X[k]? = some p := ⟨_, List.getElem?_eq_getElem hlt⟩
      obtain ⟨bq, oq, rfl, hbq, hq1, hq2⟩ := (HR1.out.sl.below hbw).pair hpk
      have hdr : X.drop k = p :: X.drop (k + 1) := by
        rw [List.drop_eq_getElem_cons hlt]; congr 1
        rw [List.getElem?_eq_getElem hlt] at hpk; injection hpk
      have HD := HN.out
      rw [hdr] at HD
      have HD := Lib.hid HD
      clear hdr hpk
      go_upto_region 4 with (fail)
      generalize hW3 : World.alloc wr _ = W3
      obtain ⟨hb3, hlt3, hx3⟩ := boxes1 hW3
      have hb4 := keepBelow hbw2 hb3
      have hbox3 := boxR hx3
      have hb5 := Below.refl W3.heap.size W3
      clear hW3 hx3
      have hb6 : Below w.heap.size w W3 := hb0.trans (hb4.mono (by omega))
      have hcur : CurAt W3 c f g l := HCW.out.below hb4
      have HCU := Lib.hid hcur
      clear hcur
      cases hgE : g.toList.isEmpty
      · have hgE2 : (!g.toList.isEmpty) = true := by rw [hgE]; rfl
        cases hgB : Op.bytesLess p.1.toList g.toList
        · have hgB2 : (!Op.bytesLess p.1.toList g.toList) = true := by rw [hgB]; rfl
          obtain rfl : O = none := by rw [HD.out]; simp [nextGo, hgE, hgB, ltB]
          go_quiet (fail)
          go_wp2_with fail
          refine bodyPost_ret (v := .tuple #[.agg #[.string emptyS, .string emptyS], .bool false]) ?_ rfl (nextNone (HCU.out.below (below_drewN _ _ _)) hcl (hb6.trans (below_drewN _ _ _)) _ _ rfl)
          simp [results, Tryz.results21, go_sem, *]; rfl
        · have hgB2 : (!Op.bytesLess p.1.toList g.toList) = false := by rw [hgB]; rfl
          go_quiet (fail)
          go_upto_region 6 with (fail)
          generalize hW4 : W3.drewN _ = W4
          obtain ⟨hb7, hz7, hcu7⟩ : Below W3.heap.size W3 W4 ∧ W4.heap.size = W3.heap.size ∧ CurAt W4 c f g l := by rw [← hW4]; exact ⟨below_drewN _ _ _, rfl, HCU.out.below (below_drewN _ _ _)⟩
          have HC7 := Lib.hid hcu7
          have hb8' := keepBelow hb4 hb7
          have hb9' := hb6.trans (hb7.mono hb6.size)
          have hz8 := Lib.hid hz7
          have hb10 := Below.refl W4.heap.size W4
          clear hW4 hz7 hcu7
          have hgt := gtr_eq p.1 l
          cases hlE : l.toList.isEmpty
          · cases hlB : Op.bytesLess l.toList p.1.toList
            · rw [hlB] at hgt
              have HD2 := Lib.hid (show O = nextGo g l (X.drop (k + 1)) by rw [HD.out]; simp [nextGo, ltB, hgE, hlE, hlB, hgB])
              go_quiet (fail)
              go_wp2_with fail
              go_roundw
              case rel => exact ⟨k + 1, by omega, by go_num, HD2, hbw.trans ((hb3.trans ((hb7.trans (below_drewN _ _ _)).mono (by have := hb3.size; omega))).mono hbw.size)⟩
              case measure => simp [intOf]; omega
            · rw [hlB] at hgt
              obtain rfl : O = some p := by rw [HD.out]; simp [nextGo, ltB, hgE, hlE, hlB, hgB]
              go_quiet (fail)
              go_wp2_with fail
              refine bodyPost_ret (v := .tuple #[.agg #[.string p.1, .string p.2], .bool true]) ?_ rfl (nextSome (HC7.out.below (below_drewN _ _ _)) hcl (hb9'.trans (below_drewN _ _ _)) p _ _ rfl)
              simp [results, Tryz.results21, go_sem, *]
          · obtain rfl : O = some p := by rw [HD.out]; simp [nextGo, ltB, hgE, hlE, hgB]
            go_quiet (fail)
            go_wp2_with fail
            refine bodyPost_ret (v := .tuple #[.agg #[.string p.1, .string p.2], .bool true]) ?_ rfl (nextSome (HC7.out.below (below_drewN _ _ _)) hcl (hb9'.trans (below_drewN _ _ _)) p _ _ rfl)
            simp [results, Tryz.results21, go_sem, *]
      · have hgE2 : (!g.toList.isEmpty) = false := by rw [hgE]; rfl
        go_quiet (fail)
        go_upto_region 6 with (fail)
        generalize hW4 : W3.drewN _ = W4
        obtain ⟨hb7, hz7, hcu7⟩ : Below W3.heap.size W3 W4 ∧ W4.heap.size = W3.heap.size ∧ CurAt W4 c f g l := by rw [← hW4]; exact ⟨below_drewN _ _ _, rfl, HCU.out.below (below_drewN _ _ _)⟩
        have HC7 := Lib.hid hcu7
        have hb8' := keepBelow hb4 hb7
        have hb9' := hb6.trans (hb7.mono hb6.size)
        have hz8 := Lib.hid hz7
        have hb10 := Below.refl W4.heap.size W4
        clear hW4 hz7 hcu7
        have hgt := gtr_eq p.1 l
        cases hlE : l.toList.isEmpty
        · cases hlB : Op.bytesLess l.toList p.1.toList
          · rw [hlB] at hgt
            have HD2 := Lib.hid (show O = nextGo g l (X.drop (k + 1)) by rw [HD.out]; simp [nextGo, ltB, hgE, hlE, hlB])
            go_quiet (fail)
            go_wp2_with fail
            go_roundw
            case rel => exact ⟨k + 1, by omega, by go_num, HD2, hbw.trans ((hb3.trans ((hb7.trans (below_drewN _ _ _)).mono (by have := hb3.size; omega))).mono hbw.size)⟩
            case measure => simp [intOf]; omega
          · rw [hlB] at hgt
            obtain rfl : O = some p := by rw [HD.out]; simp [nextGo, ltB, hgE, hlE, hlB]
            go_quiet (fail)
            go_wp2_with fail
            refine bodyPost_ret (v := .tuple #[.agg #[.string p.1, .string p.2], .bool true]) ?_ rfl (nextSome (HC7.out.below (below_drewN _ _ _)) hcl (hb9'.trans (below_drewN _ _ _)) p _ _ rfl)
            simp [results, Tryz.results21, go_sem, *]
        · obtain rfl : O = some p := by rw [HD.out]; simp [nextGo, ltB, hgE, hlE]
          go_quiet (fail)
          go_wp2_with fail
          refine bodyPost_ret (v := .tuple #[.agg #[.string p.1, .string p.2], .bool true]) ?_ rfl (nextSome (HC7.out.below (below_drewN _ _ _)) hcl (hb9'.trans (below_drewN _ _ _)) p _ _ rfl)
          simp [results, Tryz.results21, go_sem, *]
    · obtain rfl : k = X.length := by omega
      obtain rfl : O = none := by rw [HN.out]; simp [nextGo]
      go_wp2_with fail
      refine bodyPost_ret (v := .tuple #[.agg #[.string emptyS, .string emptyS], .bool false]) ?_ rfl (nextNone (HCW.out.below hbw2) hcl (hb0.trans (hbw2.mono (by omega))) _ _ rfl)
      simp [results, Tryz.results21, go_sem, *]; rfl

theorem CurAt.ne_tree {w : World} {t c : Nat} {L : Locs} {N root : Nat} {h : Has} {f g l : ByteArray} (H : TreeAt w t L N h root) (hc : CurAt w c f g l) : c ≠ t ∧ c ≠ L.s ∧ c ≠ L.b ∧ c ≠ L.bb ∧ c ≠ L.mb := by
  obtain ⟨h1, H2⟩ := H
  obtain ⟨e1, ⟨l, hb, _⟩, ⟨m, ⟨arr, clock, hm, _⟩, _⟩, _⟩ := H2
  unfold CurAt at hc
  refine ⟨?_, ?_, ?_, ?_, ?_⟩
  · intro e; rw [e, h1] at hc; injection hc with hc; injection hc with _ hc; exact absurd hc (by decide)
  · intro e; rw [e, e1] at hc; injection hc with hc; injection hc with _ hc; exact absurd hc (by decide)
  · intro e; rw [e, hb.h1] at hc; injection hc with hc; injection hc with _ hc; exact absurd hc (by decide)
  · intro e; rw [e, hb.h2] at hc; injection hc with hc; injection hc with _ hc; exact absurd hc (by decide)
  · intro e; rw [e, hm] at hc; cases hc
theorem TreeAt.cur {w w' : World} {t c : Nat} {L : Locs} {N root : Nat} {h : Has} {f g l : ByteArray} (H : TreeAt w t L N h root) (hc : CurAt w c f g l) (hm : Mods (· = c) w w') : TreeAt w' t L N h root := by
  obtain ⟨e1, e2, e3, e4, e5⟩ := hc.ne_tree H
  exact ⟨hm.heap H.cells (Ne.symm e1), H.shelf.mods hm (Ne.symm e2) (Ne.symm e3) (Ne.symm e4) (Ne.symm e5)⟩
theorem Mods.thenBelow {S : Nat → Prop} {a b c : World} (h : Mods S a b) (k : Below a.heap.size b c) : Mods S a c :=
  ⟨k.os.trans h.os, k.tape.trans h.tape, k.output.trans h.output, Nat.le_trans h.size k.size, fun i hi hs => (k.block i hi).trans (h.block i hi hs)⟩
theorem ownsRow_mods {W w1 : World} {base size k : Nat} {e : TypeId} {v : Value} {xs : List Value} {S : Nat → Prop} (hr : W.ownsRow base e size v k xs) (hm : Mods S W w1) (hS : ∀ i, base ≤ i → ¬ S i) : w1.ownsRow base e size v k xs := by
  refine ⟨hr.1, hr.2.imp id ?_⟩
  rintro ⟨g, cap, cur, h1, h2, h3, h4⟩
  exact ⟨g, cap, cur, h1, h2, hm.heap h3 (hS g h2), h4⟩

/-- What a cursor tells in a row, and the last key that it told then. -/
def restGo (f g : ByteArray) (pairs : List Pair) : Nat → ByteArray → List Pair × ByteArray
  | 0, l => ([], l)
  | k + 1, l => match nextC f g l pairs with
    | none => ([], l)
    | some p => (p :: (restGo f g pairs k p.1).1, (restGo f g pairs k p.1).2)
theorem restGo_length (f g : ByteArray) (pairs : List Pair) : ∀ k l, (restGo f g pairs k l).1.length ≤ k
  | 0, _ => Nat.le_refl _
  | k + 1, l => by
    unfold restGo
    split
    · simp
    · have := restGo_length f g pairs k
      simp; apply this

set_option maxRecDepth 100000 in
theorem many_any (n : Int) (fn : Fn) (xa xb : Array Value) (w : World) :
    Calls Tryz.prog 68 #[.int .i64 n, .func fn xa xb] w fun e w' => e = .returned (.func (.func 112) #[] #[.pointer (some ⟨w.heap.size, 0, none⟩), .pointer (some ⟨w.heap.size + 1, 0, none⟩)]) ∧ w' = (w.alloc (.cells #[.int .i64 n] 3)).alloc (.cells #[.func fn xa xb] 43) := by
  go_enter Tryz.func68, Tryz.ntmps68
  go_wp2_with fail
  go_ret
  exact ⟨rfl, rfl⟩

set_option maxRecDepth 100000 in
set_option maxHeartbeats 1000000 in
theorem manyf_any (c t bn bf : Nat) (L : Locs) (N : Nat) (h : Has) (root : Nat) (ps : Leafs) (f g l : ByteArray) (n : Int) (hn : n ≤ 1048576) (w : World) (H : TreeAt w t L N h root) (HL : TreeL t L N h root ps) (hc : CurAt w c f g l)
    (h1 : w.heap[bn]? = some (.cells #[.int .i64 n] 3 (0, 0))) (h2 : w.heap[bf]? = some (.cells #[.func (.func 21) #[.pointer (some ⟨c, 0, none⟩)] #[]] 43 (0, 0))) :
    Calls Tryz.prog 112 #[.pointer (some ⟨t, 0, none⟩), .pointer (some ⟨bn, 0, none⟩), .pointer (some ⟨bf, 0, none⟩)] w fun e w' =>
      ∃ v, e = .returned v ∧ w'.ownsRow w.heap.size 41 2 v (restGo f g (pairsOf ps) n.toNat l).1.length (pairCells (restGo f g (pairsOf ps) n.toNat l).1) ∧ CurAt w' c f g (restGo f g (pairsOf ps) n.toNat l).2 ∧ Mods (· = c) w w' := by
  have hcn := cell_of_heap (o := 0) h1
  have hcf := cell_of_heap (o := 0) h2
  have HH := Lib.hid H
  have HC := Lib.hid hc
  have HTL := Lib.hid HL
  have H1 := Lib.hid h1
  have H2 := Lib.hid h2
  have hcl := heap_lt hc
  clear H HL hc h1 h2
  have hne1 : bn ≠ c := by
    rintro rfl
    have h3 := HC.out; unfold CurAt at h3; rw [H1.out] at h3; injection h3 with h3; injection h3 with _ h3; exact absurd h3 (by decide)
  have hne2 : bf ≠ c := by
    rintro rfl
    have h3 := HC.out; unfold CurAt at h3; rw [H2.out] at h3; injection h3 with h3; injection h3 with _ h3; exact absurd h3 (by decide)
  obtain ⟨R, hR⟩ : ∃ R, R = restGo f g (pairsOf ps) n.toNat l := ⟨_, rfl⟩
  rw [← hR]
  have HR := Lib.hid hR
  have hbl := Mods.refl (· = c) w
  obtain ⟨i, hi, hz, hs, hby⟩ := info_parts infoPair
  have HI := Lib.hid hi
  have HZ := Lib.hid hz
  have HS := Lib.hid hs
  have HBY := Lib.hid hby
  clear hR hi hz hs hby
  go_enter Tryz.func112, Tryz.ntmps112
  go_wp2_with fail
  go_loopw [5, 10] (fun v j wr => ∃ (k : Nat) (A : List Pair) (l' : ByteArray), k ≤ n.toNat ∧ j = .int .i64 k ∧ Hid (wr.ownsRow w.heap.size 41 2 v A.length (pairCells A)) ∧ Hid (CurAt wr c f g l') ∧ Mods (· = c) w wr ∧
      Hid (R = (A ++ (restGo f g (pairsOf ps) (n.toNat - k) l').1, (restGo f g (pairsOf ps) (n.toNat - k) l').2)) ∧ A.length ≤ k)
    (fun _ j _ => n.toNat - (intOf j).toNat)
  case atStart =>
    refine ⟨0, [], l, Nat.zero_le _, rfl, World.ownsRow_nil _ _ _ _, HC, Mods.refl _ _, ?_, by simp⟩
    exact (show R = _ by rw [HR.out]; rfl)
  case round =>
    obtain ⟨k, A, l', hk, rfl, hown, hcur, hmod, hrr, hAl⟩ := hrel
    have hcn2 : wr.cell? ⟨bn, 0, none⟩ = some (.int .i64 n) := cell_of_heap (o := 0) (hmod.heap H1.out hne1)
    have hcf2 : wr.cell? ⟨bf, 0, none⟩ = some (.func (.func 21) #[.pointer (some ⟨c, 0, none⟩)] #[]) := cell_of_heap (o := 0) (hmod.heap H2.out hne2)
    have hsz := hmod.size
    by_cases hlt : (k : Int) < max 0 n
    · have HNX := Lib.hid (next_any c t L N h root ps f g l' wr (HH.out.cur HC.out hmod) HTL.out hcur.out)
      obtain ⟨o, ho⟩ : ∃ o, o = nextC f g l' (pairsOf ps) := ⟨_, rfl⟩
      rw [← ho] at HNX
      have hst : n.toNat - k = (n.toNat - (k + 1)) + 1 := by omega
      have HRR := hrr.out
      rw [hst, restGo, ← ho] at HRR
      clear ho hst hrr
      cases o with
      | none =>
        have HNY : Calls Tryz.prog 21 #[.pointer (some ⟨c, 0, none⟩), .pointer (some ⟨t, 0, none⟩)] wr fun e w' => e = .returned (.tuple #[.agg #[.string emptyS, .string emptyS], .bool false]) ∧ CurAt w' c f g l' ∧ Mods (· = c) wr w' :=
          HNX.out.mono fun e w' h => ⟨h.ret, h.cur, h.mods⟩
        have HNY := Lib.hid HNY
        have HRS : R = (A ++ [], l') := HRR
        rw [List.append_nil] at HRS
        subst HRS
        clear HRR
        go_wp2_with (go_at_call 21; refine HNY.out.mono ?_; rintro e w1 ⟨rfl, hc1, hm1⟩)
        go_ret
        exact ⟨_, rfl, ((ownsRow_mods hown.out hm1 (by intro i hi; omega)).alloc _), alloc_old hc1, hmod.trans (hm1.trans (Mods.of_below ((Below.refl _ _).alloc (Nat.le_refl _) _)))⟩
      | some p =>
        have HNY : Calls Tryz.prog 21 #[.pointer (some ⟨c, 0, none⟩), .pointer (some ⟨t, 0, none⟩)] wr fun e w' => e = .returned (.tuple #[.agg #[.string p.1, .string p.2], .bool true]) ∧ CurAt w' c f g p.1 ∧ Mods (· = c) wr w' :=
          HNX.out.mono fun e w' h => ⟨h.ret, h.cur, h.mods⟩
        have HNY := Lib.hid HNY
        have HRS := Lib.hid HRR
        clear HRR
        obtain ⟨a5, cap5, rfl, hrow5, hfr5⟩ := ownsRow_fresh hown.out
        clear hrow5 hfr5
        go_wp2_with (first
          | (go_at_call 21; refine HNY.out.mono ?_; rintro e w1 ⟨rfl, hc1, hm1⟩; have hown1 := Lib.hid (ownsRow_mods hown.out hm1 (by intro i hi; omega)); have HC1 := Lib.hid hc1; have hz1 := hm1.size; clear hc1)
          | (at_builtin; refine wpList_append_lies _ rfl (.tmp 20) (.tmp 22) 46 rfl w.heap.size 41 i _ 2 32 Tryz.underlying46 HI.out HZ.out HS.out HBY.out rfl (by omega) _ A.length _ rfl ((hown1.out.alloc _).alloc _) ⟨w1.heap.size + 1, 0, none⟩ 1 1 [.string p.1, .string p.2] rfl rfl (by have := World.news_of_block (heap_alloc_new (w1.alloc (.cells #[.string p.1, .string p.2] 41)) (.cells #[.string p.1, .string p.2] 41)); simpa using this) (by simp [Value.oneCell']) (by omega) (by unfold maxLen; omega) (by omega) (by simp; omega) _ rfl ?_; intro g5 cap5 W5 hown5 hgr5 hlie5 hg5))
        go_roundw
        case rel =>
          have hal : Below w1.heap.size w1 ((w1.alloc (.cells #[.string p.1, .string p.2] 41)).alloc (.cells #[.string p.1, .string p.2] 41)) := ((Below.refl _ _).alloc (Nat.le_refl _) _).alloc (by simp) _
          have hown6 := ownsRow_below hown1.out hal
          have hz6 := hal.size
          have hgb := below_grown hown6 hgr5 (Nat.le_refl _) (by omega)
          refine ⟨k + 1, A ++ [p], p.1, by omega, by go_num, ?_, ?_, ?_, ?_, by simp; omega⟩
          · rw [pairCells_append, List.length_append]
            exact hown5
          · exact (hgb.block _ hcl).trans (heapR HC1.out hal)
          · exact (hmod.trans (hm1.trans (Mods.of_below hal))).thenBelow hgb
          · exact (show R = _ by rw [HRS.out, List.append_assoc]; rfl)
        case measure => simp [intOf]; omega
    · have HRR := hrr.out
      rw [show n.toNat - k = 0 by omega, restGo, List.append_nil] at HRR
      subst HRR
      clear hrr
      go_wp2_with fail
      go_ret
      exact ⟨u5, rfl, hown.out, hcur.out, hmod⟩

set_option maxRecDepth 100000 in
set_option maxHeartbeats 1000000 in
theorem rest_any (c t : Nat) (L : Locs) (N : Nat) (h : Has) (root : Nat) (ps : Leafs) (f g l : ByteArray) (n : Int) (hn : n ≤ 1048576) (w : World) (H : TreeAt w t L N h root) (HL : TreeL t L N h root ps) (hc : CurAt w c f g l) :
    Calls Tryz.prog 24 #[.pointer (some ⟨c, 0, none⟩), .pointer (some ⟨t, 0, none⟩), .int .i64 n] w fun e w' =>
      ∃ v, e = .returned v ∧ w'.ownsRow w.heap.size 41 2 v (restGo f g (pairsOf ps) n.toNat l).1.length (pairCells (restGo f g (pairsOf ps) n.toNat l).1) ∧ CurAt w' c f g (restGo f g (pairsOf ps) n.toNat l).2 ∧ Mods (· = c) w w' := by
  have HM := Lib.hid (fun W bn bf hW => manyf_any c t bn bf L N h root ps f g l n hn W (H.below hW) HL (CurAt.below hc hW))
  have hcl := heap_lt hc
  clear H HL hc
  generalize restGo f g (pairsOf ps) n.toNat l = R at *
  go_enter Tryz.func24, Tryz.ntmps24
  go_wp2_with (first
    | (go_at_call 68; refine (many_any _ _ _ _ _).mono ?_; rintro e w1 ⟨rfl, rfl⟩))
  have hb : Below w.heap.size w ((w.alloc (.cells #[.int .i64 n] 3)).alloc (.cells #[.func (.func 21) #[.pointer (some ⟨c, 0, none⟩)] #[]] 43)) := ((Below.refl _ _).alloc (Nat.le_refl _) _).alloc (by simp) _
  refine (HM.out _ _ _ hb ?_ ?_).mono ?_
  · exact alloc_old (heap_alloc_new w _)
  · have := heap_alloc_new (w.alloc (.cells #[.int .i64 n] 3)) (.cells #[.func (.func 21) #[.pointer (some ⟨c, 0, none⟩)] #[]] 43)
    rwa [World.size_alloc] at this
  rintro e w1 ⟨v, rfl, hown, hc1, hm1⟩
  go_wp2_with fail
  go_ret
  exact ⟨v, rfl, ownsRow_base hown hb.size, hc1, (Mods.of_below hb).trans hm1⟩
end Go.Proofs.YtabngdpijbpgeaaGreat
