/- The fixed calls of law 14, in plain Lean: the leaves, the answers. -/
import Derived.Test.YtabngdpijbpgeaaGreatCurD
set_option linter.unusedVariables false
set_option linter.unusedSimpArgs false
namespace Go.Proofs.YtabngdpijbpgeaaGreat
open Go Go.RowKit

def kS (k : Nat) : ByteArray := ⟨#[UInt8.ofNat (97 + k)]⟩
def lk (k : Nat) : LeafD := ⟨(List.range k).map fun i => (kS i, ⟨#[]⟩), emptyS, 0⟩
theorem lk_put : ∀ k, k < 4 → PutsOne (lk k) (kS k) ⟨#[]⟩ (lk (k + 1))
  | 0, _ => ⟨by decide +kernel, by decide +kernel, by decide +kernel, by kernel_rfl, by decide +kernel⟩
  | 1, _ => ⟨by decide +kernel, by decide +kernel, by decide +kernel, by kernel_rfl, by decide +kernel⟩
  | 2, _ => ⟨by decide +kernel, by decide +kernel, by decide +kernel, by kernel_rfl, by decide +kernel⟩
  | 3, _ => ⟨by decide +kernel, by decide +kernel, by decide +kernel, by kernel_rfl, by decide +kernel⟩
  | k + 4, h => by omega
/-- Without "c"; with "bb". -/
def lA : LeafD := ⟨[(kS 0, ⟨#[]⟩), (kS 1, ⟨#[]⟩), (kS 3, ⟨#[]⟩)], emptyS, 0⟩
def bbS : ByteArray := ⟨#[98, 98]⟩
def xS : ByteArray := ⟨#[120]⟩
def lB : LeafD := ⟨[(kS 0, ⟨#[]⟩), (kS 1, ⟨#[]⟩), (bbS, xS), (kS 3, ⟨#[]⟩)], emptyS, 0⟩
theorem lA_del : keyB (kS 2) = true ∧ rightL (lk 4) = true ∧ delL (lk 4) (kS 2) = (lA, 0) ∧ rightL lA = true := ⟨by decide +kernel, by decide +kernel, by kernel_rfl, by decide +kernel⟩
theorem lB_put : PutsOne lA bbS xS lB := ⟨by decide +kernel, by decide +kernel, by decide +kernel, by kernel_rfl, by decide +kernel⟩
theorem tell1 : nextC (kS 1) (kS 3) emptyS (pairsOf [(0, lk 4)]) = some (kS 1, ⟨#[]⟩) := by kernel_rfl
theorem tell2 : nextC (kS 1) (kS 3) (kS 1) (pairsOf [(0, lB)]) = some (bbS, xS) := by kernel_rfl
theorem tell3 : nextC (kS 1) (kS 3) bbS (pairsOf [(0, lB)]) = none := by kernel_rfl
theorem tellR : restGo (kS 1) (kS 3) (pairsOf [(0, lB)]) 5 (kS 1) = ([(bbS, xS)], bbS) := by kernel_rfl
def saved : ByteArray := ⟨#[1, 1, 98, 1, 100, 1, 98]⟩
theorem save1 : saveB (kS 1) (kS 3) (kS 1) = saved := by kernel_rfl
theorem load1 : loadC saved = some (kS 1, kS 3, kS 1) := by kernel_rfl
theorem load2 : loadC (saved ++ xS) = none := by kernel_rfl
theorem load3 : loadC ⟨#[]⟩ = none := by kernel_rfl
theorem cut1 : cutB (kS 1) = kS 1 ∧ cutB (kS 3) = kS 3 := ⟨by kernel_rfl, by kernel_rfl⟩

theorem Mods.below {S : Nat → Prop} {n : Nat} {w a b : World} (h : Below n w a) (hz : n ≤ a.heap.size) (hm : Mods S a b) (hs : ∀ i, S i → n ≤ i) : Below n w b :=
  h.trans ⟨hm.os, hm.tape, hm.output, hm.size, fun k hk => hm.block k (by omega) (fun e => by have := hs k e; omega)⟩

/-- A tree of one leaf at page 0. -/
def hL (l : LeafD) : Has := upd (fun _ => none) 0 (some (encS l))
theorem hL_upd (l m : LeafD) : upd (hL l) 0 (some (encS m)) = hL m := by
  funext j; unfold hL upd; split <;> rfl
def Locs.since (L : Locs) (n : Nat) : Prop := n ≤ L.s ∧ n ≤ L.b ∧ n ≤ L.bb ∧ n ≤ L.mb

set_option maxRecDepth 100000 in
set_option maxHeartbeats 1000000 in
theorem begin_any (n : Nat) (w : World) (h1 : 1 ≤ n) (h2 : n ≤ 1024) :
    Calls Tryz.prog 15 #[.int .i64 n] w fun e w' => ∃ t L, e = .returned (.pointer (some ⟨t, 0, none⟩)) ∧ TreeAt w' t L n (hL emptyLeaf) 0 ∧ w.heap.size ≤ t ∧ L.since w.heap.size ∧ Below w.heap.size w w' := by
  have HN := Lib.hid (new_shelf n w h1 h2)
  go_enter Tryz.func15, Tryz.ntmps15
  go_wp2_with (first
    | (go_at_call 36; refine HN.out.mono ?_; rintro e w1 ⟨L, rfl, hs, k1, k2, k3, k4, hb⟩)
    | (go_at_call 37; refine (newtree_ok L n _ 0 w1 hs (by omega) rfl (by omega)).mono ?_; rintro e w2 ⟨t, rfl, ht, hT, hm⟩))
  go_ret
  refine ⟨t, L, rfl, hT, ?_, ⟨k1, k2, k3, k4⟩, hm.below hb hb.size ?_⟩
  · have := hb.size; omega
  · rintro i (rfl | rfl) <;> assumption
end Go.Proofs.YtabngdpijbpgeaaGreat
