/- The fixed calls of law 14: true. -/
import Derived.Test.YtabngdpijbpgeaaGreatCurE
set_option linter.unusedVariables false
set_option linter.unusedSimpArgs false
namespace Go.Proofs.YtabngdpijbpgeaaGreat
open Go Go.RowKit

theorem treeL_one (t : Nat) (L : Locs) (N : Nat) (l : LeafD) (hR : rightL l = true) : TreeL t L N (hL l) 0 [(0, l)] :=
  ⟨fun x hx => by simp at hx; subst hx; exact ⟨rfl, hR⟩, by simp, fun w H => leaves_one t L N (hL l) 0 l w H rfl hR⟩
theorem put1 (t : Nat) (L : Locs) (N : Nat) (l m : LeafD) (key val : ByteArray) (w : World) (H : TreeAt w t L N (hL l) 0) (hP : PutsOne l key val m) :
    Calls Tryz.prog 32 #[.pointer (some ⟨t, 0, none⟩), .string key, .string val] w fun e w' => (∃ b, e = .returned (.tuple #[.bool b, .int .i64 0])) ∧ TreeAt w' t L N (hL m) 0 ∧ Mods (· = L.mb) w w' :=
  (put_one t L N (hL l) 0 l m key val w H rfl hP).mono fun e w' ⟨h1, h2, h3⟩ => ⟨⟨_, h1⟩, by rw [hL_upd] at h2; exact h2, h3⟩
theorem del1 (t : Nat) (L : Locs) (N : Nat) (l m : LeafD) (key : ByteArray) (w : World) (H : TreeAt w t L N (hL l) 0) (hk : keyB key = true) (hR : rightL l = true) (hp : delL l key = (m, 0)) (hm : rightL m = true) :
    Calls Tryz.prog 33 #[.pointer (some ⟨t, 0, none⟩), .string key] w fun e w' => e = .returned (.int .i64 0) ∧ TreeAt w' t L N (hL m) 0 ∧ Mods (· = L.mb) w w' :=
  (del_one t L N (hL l) 0 l m key w H rfl hk hR hp hm).mono fun e w' ⟨h1, h2, h3⟩ => ⟨h1, by rw [hL_upd] at h2; exact h2, h3⟩
theorem CurAt.mods {w w' : World} {c : Nat} {f g l : ByteArray} {S : Nat → Prop} (h : CurAt w c f g l) (hm : Mods S w w') (hc : ¬ S c) : CurAt w' c f g l := hm.heap h hc

set_option maxRecDepth 100000 in
set_option maxHeartbeats 4000000 in
theorem fixed14 (w : World) : Calls Tryz.prog 30 #[] w fun e w' => e = .returned (.bool true) ∧ Below w.heap.size w w' := by
  have hrb := fun (c : Nat) (hk : c < 256) (w' : World) => run_bytes_string (P := Tryz.prog) (w'.alloc (.cells #[.int .u8 (c : Int)] 5)) 66 9 5 w'.heap.size 0 1 1 [UInt8.ofNat c] Tryz.underlying66 Tryz.underlying5 Tryz.underlying9 rfl (fun j v hv => by
    have : j = 0 := by have := (List.getElem?_eq_some_iff.1 hv).1; simp [byteCells] at this; omega
    subst this
    simp [byteCells] at hv
    rw [← hv, cell_of_heap (heap_alloc_new w' _)]
    simp; omega)
  have HRB := Lib.hid hrb
  clear hrb
  go_enter Tryz.func30, Tryz.ntmps30
  go_wp2_with fail
  refine (begin_any 10 w (by omega) (by omega)).mono ?_
  rintro e w1 ⟨t, L, rfl, hT1, ht, hLf, hb1⟩
  have HT1 := Lib.hid hT1
  clear hT1
  obtain ⟨hf1, hf2, hf3, hf4⟩ := hLf
  go_wp2_with fail
  go_loopw [2] (fun i wr => ∃ c : Nat, 97 ≤ c ∧ c ≤ 101 ∧ i = .int .u8 c ∧ Hid (TreeAt wr t L 10 (hL (lk (c - 97))) 0) ∧ Below w.heap.size w wr ∧ w.heap.size ≤ wr.heap.size)
    (fun i _ => (101 - intOf i).toNat)
  case atStart => exact ⟨97, by omega, by omega, rfl, HT1, hb1, hb1.size⟩
  case round =>
    obtain ⟨c, hc1, hc2, rfl, HT, hbw, hsw⟩ := hrel
    by_cases hlt : c < 101
    · have hrb := HRB.out c (by omega)
      obtain ⟨k, hk⟩ : ∃ k, c = 97 + k := ⟨c - 97, by omega⟩
      have hkk : bs [UInt8.ofNat c] = kS k := by rw [hk]; rfl
      rw [hkk] at hrb
      have e1 : c - 97 = k := by omega
      have e2 : c + 1 - 97 = k + 1 := by omega
      rw [e1] at HT
      have HK := Lib.hid hk
      have HE2 := Lib.hid e2
      have hk4 : k < 4 := by omega
      clear hkk hk e1 e2
      go_wp2_with (go_at_call 32; refine (put1 t L 10 (lk k) (lk (k + 1)) _ _ _ (HT.out.below ((Below.refl _ _).alloc (Nat.le_refl _) _)) (lk_put k hk4)).mono ?_; rintro e w2 ⟨⟨b, rfl⟩, hT2, hm2⟩)
      go_roundw
      case rel =>
        refine ⟨c + 1, by omega, by omega, by go_num, ?_, ?_, ?_⟩
        · rw [HE2.out]; exact hT2
        · exact hm2.below (hbw.trans (((Below.refl _ _).alloc (Nat.le_refl _) _).mono hsw)) (by simp; omega) (by rintro i rfl; exact hf4)
        · have := hm2.size; simp at this; omega
      case measure => simp [intOf]; omega
    · obtain rfl : c = 101 := by omega
      clear hc1 hc2 hlt HT1 HRB
      obtain ⟨W0, hW0⟩ : ∃ W0, W0 = wr := ⟨_, rfl⟩
      subst hW0
      go_wp2_with fail
      refine (newcur_any _ _ _ (by decide) (by decide)).mono ?_
      rintro e w2 ⟨rfl, hc2, hb2⟩
      rw [show cutB ⟨#[98]⟩ = kS 1 from by kernel_rfl, show cutB ⟨#[100]⟩ = kS 3 from by kernel_rfl] at hc2
      obtain ⟨c, hcd⟩ : ∃ c, c = W0.heap.size := ⟨_, rfl⟩
      rw [← hcd] at hc2
      rw [← hcd]
      have hcw : w.heap.size ≤ c := by omega
      have HT2 := Lib.hid (HT.out.below hb2)
      have hbw2 := hbw.trans (hb2.mono hsw)
      have HC2 := Lib.hid hc2
      have hmb2 : L.mb < w2.heap.size := HT2.out.shelf.lt.2.2.2
      have hcl2 : c < w2.heap.size := heap_lt hc2
      clear hc2 hb2 hbw hcd hsw HT
      go_wp2_with fail
      refine (last_any c _ _ _ w2 HC2.out).mono ?_
      rw [show (!emptyS.toList.isEmpty) = false from by kernel_rfl]
      rintro e w3 ⟨rfl, n3, rfl⟩
      have HT3 := Lib.hid (HT2.out.below (below_drewN _ _ n3))
      have HC3 := Lib.hid (HC2.out.below (below_drewN _ _ n3))
      have hbw3 := hbw2.trans (below_drewN _ _ n3)
      obtain ⟨w3, hw3⟩ : ∃ w3, w3 = w2.drewN n3 := ⟨_, rfl⟩
      have hz3 : w3.heap.size = w2.heap.size := by rw [hw3]; rfl
      rw [← hw3] at HT3 HC3 hbw3
      rw [← hw3]
      have hmb3 : L.mb < w3.heap.size := by omega
      have hcl3 : c < w3.heap.size := by omega
      clear hw3 hz3 HT2 HC2 hbw2 hmb2 hcl2
      go_wp2_with fail
      have hnx := next_any c t L 10 (hL (lk 4)) 0 [(0, lk 4)] (kS 1) (kS 3) emptyS w3 HT3.out (treeL_one t L 10 (lk 4) lA_del.2.1) HC3.out
      rw [tell1] at hnx
      refine hnx.mono ?_
      rintro e w4 ⟨rfl, hc4, hm4⟩
      have HT4 := Lib.hid (HT3.out.cur HC3.out hm4)
      have HC4 := Lib.hid (show CurAt w4 c (kS 1) (kS 3) (kS 1) from hc4)
      have hbw4 := hm4.below hbw3 (by omega) (by rintro i rfl; omega)
      have hz4 := hm4.size
      have hmb4 : L.mb < w4.heap.size := by omega
      have hcl4 : c < w4.heap.size := by omega
      rw [show resP (some (kS 1, (⟨#[]⟩ : ByteArray))) = .tuple #[.agg #[.string (kS 1), .string ⟨#[]⟩], .bool true] from rfl]
      clear hnx hc4 hm4 HT3 HC3 hbw3 hz4 hmb3 hcl3
      go_wp2_with fail
      obtain ⟨b6, hb6⟩ : ∃ b6, b6 = w4.heap.size := ⟨_, rfl⟩
      rw [← hb6]
      obtain ⟨w5, hw5⟩ : ∃ w5, w5 = w4.alloc (.cells #[.string (kS 1), .string ⟨#[]⟩] 41) := ⟨_, rfl⟩
      rw [← hw5]
      have hal5 : Below w4.heap.size w4 w5 := by rw [hw5]; exact (Below.refl _ _).alloc (Nat.le_refl _) _
      have HT5 := Lib.hid (HT4.out.below hal5)
      have HC5 := Lib.hid (HC4.out.below hal5)
      have HB5 := Lib.hid (show w5.heap[b6]? = some (.cells #[.string (kS 1), .string ⟨#[]⟩] 41 (0, 0)) by rw [hb6, hw5]; exact heap_alloc_new _ _)
      have hbw5 := hbw4.trans (hal5.mono (by omega))
      have hne1 : c ≠ L.mb := (HC5.out.ne_tree HT5.out).2.2.2.2
      have hne2 : b6 ≠ c := by omega
      have hne3 : b6 ≠ L.mb := by omega
      have hz5 : b6 < w5.heap.size := by rw [hb6, hw5]; simp
      have hmb5 : L.mb < w5.heap.size := by omega
      have hcl5 : c < w5.heap.size := by omega
      have hcb : c < b6 := by omega
      have hmbb : L.mb < b6 := by omega
      clear hw5 hal5 hb6 HT4 HC4 hbw4 hmb4 hcl4
      refine (del1 t L 10 (lk 4) lA (kS 2) w5 HT5.out lA_del.1 lA_del.2.1 lA_del.2.2.1 lA_del.2.2.2).mono ?_
      rintro e w6 ⟨rfl, hT6, hm6⟩
      have HT6 := Lib.hid hT6
      have HC6 := Lib.hid (HC5.out.mods hm6 hne1)
      have HB6 := Lib.hid (hm6.heap HB5.out hne3)
      have hbw6 := hm6.below hbw5 (by omega) (by rintro i rfl; omega)
      have hz6 : b6 < w6.heap.size := by have := hm6.size; omega
      clear hT6 hm6 HT5 HC5 HB5 hbw5 hz5 hmb5 hcl5
      go_wp2_with fail
      refine (put1 t L 10 lA lB bbS xS w6 HT6.out lB_put).mono ?_
      rintro e w7 ⟨⟨b7, rfl⟩, hT7, hm7⟩
      have HT7 := Lib.hid hT7
      have HC7 := Lib.hid (HC6.out.mods hm7 hne1)
      have HB7 := Lib.hid (hm7.heap HB6.out hne3)
      have hbw7 := hm7.below hbw6 (by omega) (by rintro i rfl; omega)
      have hz7 : b6 < w7.heap.size := by have := hm7.size; omega
      clear hT7 hm7 HT6 HC6 HB6 hbw6 hz6
      go_wp2_with fail
      refine (save_any c (kS 1) (kS 3) (kS 1) w7 HC7.out (by decide) (by decide) (by decide)).mono ?_
      rw [save1]
      rintro e w8 ⟨rfl, hb8⟩
      have HT8 := Lib.hid (HT7.out.below hb8)
      have HC8 := Lib.hid (HC7.out.below hb8)
      have HB8 := Lib.hid (heapR HB7.out hb8)
      have hbw8 := hbw7.trans (hb8.mono (by omega))
      have hz8 : b6 < w8.heap.size := by have := hb8.size; omega
      clear hb8 HT7 HC7 HB7 hbw7 hz7
      go_wp2_with fail
      have hld := load_any saved w8 (by decide)
      rw [load1] at hld
      refine hld.mono ?_
      rintro e w9 ⟨hb9, d, rfl, hd, hd9⟩
      have HT9 := Lib.hid (HT8.out.below hb9)
      have HC9 := Lib.hid (HC8.out.below hb9)
      have HB9 := Lib.hid (heapR HB8.out hb9)
      have HD9 := Lib.hid hd9
      have hbw9 := hbw8.trans (hb9.mono (by omega))
      have hz9 : b6 < w9.heap.size := by have := hb9.size; omega
      have hdl9 : d < w9.heap.size := heap_lt hd9
      have hdb : b6 < d := by omega
      clear hb9 hd hd9 hld HT8 HC8 HB8 hbw8 hz8
      go_wp2_with fail
      have hnx := next_any c t L 10 (hL lB) 0 [(0, lB)] (kS 1) (kS 3) (kS 1) w9 HT9.out (treeL_one t L 10 lB lB_put.2.2.2.2) HC9.out
      rw [tell2] at hnx
      refine hnx.mono ?_
      rintro e w10 ⟨rfl, hc10, hm10⟩
      have HT10 := Lib.hid (HT9.out.cur HC9.out hm10)
      have HC10 := Lib.hid (show CurAt w10 c (kS 1) (kS 3) bbS from hc10)
      have HB10 := Lib.hid (hm10.heap HB9.out hne2)
      have HD10 := Lib.hid (HD9.out.mods hm10 (by omega))
      have hbw10 := hm10.below hbw9 (by omega) (by rintro i rfl; omega)
      have hz10 : d < w10.heap.size := by have := hm10.size; omega
      rw [show resP (some (bbS, xS)) = .tuple #[.agg #[.string bbS, .string xS], .bool true] from rfl]
      clear hnx hc10 hm10 HT9 HC9 HB9 HD9 hbw9 hz9 hdl9
      go_wp2_with fail
      obtain ⟨b11, hb11⟩ : ∃ b11, b11 = w10.heap.size := ⟨_, rfl⟩
      rw [← hb11]
      obtain ⟨w11, hw11⟩ : ∃ w11, w11 = w10.alloc (.cells #[.string bbS, .string xS] 41) := ⟨_, rfl⟩
      rw [← hw11]
      have hal11 : Below w10.heap.size w10 w11 := by rw [hw11]; exact (Below.refl _ _).alloc (Nat.le_refl _) _
      have HT11 := Lib.hid (HT10.out.below hal11)
      have HC11 := Lib.hid (HC10.out.below hal11)
      have HD11 := Lib.hid (HD10.out.below hal11)
      have HB11 := Lib.hid (heapR HB10.out hal11)
      have HE11 := Lib.hid (show w11.heap[b11]? = some (.cells #[.string bbS, .string xS] 41 (0, 0)) by rw [hb11, hw11]; exact heap_alloc_new _ _)
      have hbw11 := hbw10.trans (hal11.mono (by omega))
      have hdb11 : d < b11 := by omega
      have hz11 : b11 < w11.heap.size := by rw [hb11, hw11]; simp
      clear hw11 hal11 hb11 HT10 HC10 HB10 HD10 hbw10 hz10
      have hnx := next_any c t L 10 (hL lB) 0 [(0, lB)] (kS 1) (kS 3) bbS w11 HT11.out (treeL_one t L 10 lB lB_put.2.2.2.2) HC11.out
      rw [tell3] at hnx
      refine hnx.mono ?_
      rintro e w12 ⟨rfl, hc12, hm12⟩
      have HT12 := Lib.hid (HT11.out.cur HC11.out hm12)
      have HC12 := Lib.hid (show CurAt w12 c (kS 1) (kS 3) bbS from hc12)
      have HB12 := Lib.hid (hm12.heap HB11.out hne2)
      have HD12 := Lib.hid (HD11.out.mods hm12 (by omega))
      have HE12 := Lib.hid (hm12.heap HE11.out (by omega))
      have hbw12 := hm12.below hbw11 (by omega) (by rintro i rfl; omega)
      have hz12 : b11 < w12.heap.size := by have := hm12.size; omega
      rw [show resP none = .tuple #[.agg #[.string emptyS, .string emptyS], .bool false] from rfl]
      clear hnx hc12 hm12 HT11 HC11 HB11 HD11 HE11 hbw11 hz11
      go_wp2_with fail
      obtain ⟨w13, hw13⟩ : ∃ w13, w13 = w12.alloc (.cells #[.string emptyS, .string emptyS] 41) := ⟨_, rfl⟩
      rw [← hw13]
      have hal13 : Below w12.heap.size w12 w13 := by rw [hw13]; exact (Below.refl _ _).alloc (Nat.le_refl _) _
      have HT13 := Lib.hid (HT12.out.below hal13)
      have HC13 := Lib.hid (HC12.out.below hal13)
      have HD13 := Lib.hid (HD12.out.below hal13)
      have HB13 := Lib.hid (heapR HB12.out hal13)
      have HE13 := Lib.hid (heapR HE12.out hal13)
      have hbw13 := hbw12.trans (hal13.mono (by omega))
      have hz13 : b11 < w13.heap.size := by have := hal13.size; omega
      clear hw13 hal13 HT12 HC12 HB12 HD12 HE12 hbw12 hz12
      refine (last_any c _ _ _ w13 HC13.out).mono ?_
      rw [show (!bbS.toList.isEmpty) = true from by kernel_rfl]
      rintro e w14 ⟨rfl, n14, rfl⟩
      have HT14 := Lib.hid (HT13.out.below (below_drewN _ _ n14))
      have HD14 := Lib.hid (HD13.out.below (below_drewN _ _ n14))
      have HB14 := Lib.hid (heapR HB13.out (below_drewN _ _ n14))
      have HE14 := Lib.hid (heapR HE13.out (below_drewN _ _ n14))
      have hbw14 := hbw13.trans (below_drewN _ _ n14)
      obtain ⟨w14, hw14⟩ : ∃ w14, w14 = w13.drewN n14 := ⟨_, rfl⟩
      have hz14 : b11 < w14.heap.size := by rw [hw14]; exact hz13
      rw [← hw14] at HT14 HD14 HB14 HE14 hbw14
      rw [← hw14]
      clear hw14 hz13 HT13 HC13 HB13 HD13 HE13 hbw13
      have hlim : ¬ (9223372036854775807 < saved.size + (⟨#[120]⟩ : ByteArray).size) := by decide
      go_wp2_with fail
      have hld := load_any (saved ++ xS) w14 (by decide +kernel)
      rw [load2] at hld
      refine hld.mono ?_
      rintro e w15 ⟨hb15, rfl⟩
      have HT15 := Lib.hid (HT14.out.below hb15)
      have HD15 := Lib.hid (HD14.out.below hb15)
      have HB15 := Lib.hid (heapR HB14.out hb15)
      have HE15 := Lib.hid (heapR HE14.out hb15)
      have hbw15 := hbw14.trans (hb15.mono (by omega))
      have hz15 : b11 < w15.heap.size := by have := hb15.size; omega
      clear hld hlim hb15 HT14 HD14 HB14 HE14 hbw14 hz14
      go_wp2_with fail
      have hld := load_any ⟨#[]⟩ w15 (by decide)
      rw [load3] at hld
      refine hld.mono ?_
      rintro e w16 ⟨hb16, rfl⟩
      have HT16 := Lib.hid (HT15.out.below hb16)
      have HD16 := Lib.hid (HD15.out.below hb16)
      have HB16 := Lib.hid (heapR HB15.out hb16)
      have HE16 := Lib.hid (heapR HE15.out hb16)
      have hbw16 := hbw15.trans (hb16.mono (by omega))
      have hz16 : b11 < w16.heap.size := by have := hb16.size; omega
      clear hld hb16 HT15 HD15 HB15 HE15 hbw15 hz15
      go_wp2_with fail
      have hrs := rest_any d t L 10 (hL lB) 0 [(0, lB)] (kS 1) (kS 3) (kS 1) 5 (by decide) w16 HT16.out (treeL_one t L 10 lB lB_put.2.2.2.2) HD16.out
      rw [show (5 : Int).toNat = 5 from rfl, tellR] at hrs
      refine hrs.mono ?_
      rintro e w17 ⟨v17, rfl, hown17, -, hm17⟩
      obtain ⟨a17, cap17, rfl, hrow17, -⟩ := ownsRow_fresh hown17
      obtain ⟨bq, oq, rfl, hbq, hq1, hq2⟩ := hrow17.sl.pair (ps := [(bbS, xS)]) (k := 0) (p := (bbS, xS)) rfl
      have hB := hm17.heap HB16.out (by omega)
      have hE := hm17.heap HE16.out (by omega)
      have hB0 := cell_of_heap (o := 0) hB
      have hE0 := cell_of_heap (o := 0) hE
      have hE1 := cell_of_heap (o := 1) hE
      have hbw17 := hm17.below hbw16 (by omega) (by rintro i rfl; omega)
      clear hrs hown17 hm17 hrow17 HT16 HD16 HB16 HE16 hbw16 hB hE
      rw [show oq + 0 * 2 = oq by omega] at hq1 hq2
      rw [show kS 1 = ⟨#[98]⟩ from rfl] at hB0
      rw [show bbS = ⟨#[98, 98]⟩ from rfl] at hE0 hq1
      rw [show xS = ⟨#[120]⟩ from rfl] at hE1 hq2
      rw [show kS 1 = ⟨#[98]⟩ from rfl, show bbS = ⟨#[98, 98]⟩ from rfl, show xS = ⟨#[120]⟩ from rfl, show saved = ⟨#[1, 1, 98, 1, 100, 1, 98]⟩ from rfl]
      go_wp2_with fail
      go_quiet (fail)
      go_wp2_with fail
      go_ret
      exact ⟨rfl, hbw17.trans (below_drewN _ _ _)⟩
end Go.Proofs.YtabngdpijbpgeaaGreat
