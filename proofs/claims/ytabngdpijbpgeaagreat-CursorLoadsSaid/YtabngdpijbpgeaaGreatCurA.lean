/- Package cursor: cut, New, Last, text, Save. -/
import Derived.Test.YtabngdpijbpgeaaGreatTreeC
set_option linter.unusedVariables false
set_option linter.unusedSimpArgs false
namespace Go.Proofs.YtabngdpijbpgeaaGreat
open Go Go.RowKit

def cutB (s : ByteArray) : ByteArray := s.extract 0 (min (s.size : Int) 16).toNat
theorem cutB_size (s : ByteArray) : (cutB s).size = min s.size 16 := by
  unfold cutB; simp [ByteArray.size_extract]; omega
theorem cutB_self {s : ByteArray} (h : s.size ≤ 16) : cutB s = s := by
  unfold cutB
  rw [show (min (s.size : Int) 16).toNat = s.size by omega]
  apply ByteArray.ext; simp

set_option maxRecDepth 100000 in
theorem cut_any (s : ByteArray) (w : World) (hs : s.size ≤ big) :
    Calls Tryz.prog 63 #[.string s] w fun e w' => e = .returned (.string (cutB s)) ∧ w = w' := by
  unfold big at hs
  go_enter Tryz.func63, Tryz.ntmps63
  go_wp2
  go_ret
  exact ⟨rfl, rfl⟩

/-- Where a cursor lies. -/
def CurAt (w : World) (c : Nat) (f t l : ByteArray) : Prop := w.heap[c]? = some (.cells #[.string f, .string t, .string l] 111 (0, 0))

set_option maxRecDepth 100000 in
theorem newcur_any (f t : ByteArray) (w : World) (hf : f.size ≤ big) (ht : t.size ≤ big) :
    Calls Tryz.prog 18 #[.string f, .string t] w fun e w' => e = .returned (.pointer (some ⟨w.heap.size, 0, none⟩)) ∧ CurAt w' w.heap.size (cutB f) (cutB t) emptyS ∧ Below w.heap.size w w' := by
  go_enter Tryz.func18, Tryz.ntmps18
  go_wp2_with (first
    | (go_at_call 63; refine (cut_any _ _ (by assumption)).mono ?_; rintro e w' ⟨rfl, rfl⟩))
  go_ret
  exact ⟨rfl, heap_alloc_new w _, (Below.refl _ _).alloc (Nat.le_refl _) _⟩

def saveB (f t l : ByteArray) : ByteArray := bs ((if l.toList = [] then [0] else [1]) ++ textBytes f ++ textBytes t ++ textBytes l)

theorem u8_lt (n : Nat) (h : n < 256) : (UInt8.ofNat n).toNat = n := by simp; omega
set_option maxRecDepth 100000 in
set_option maxHeartbeats 1000000 in
theorem ctext_any (s : ByteArray) (w : World) (hs : s.size ≤ 255) :
    Calls Tryz.prog 69 #[.string s] w fun e w' => e = .returned (.string (bs (textBytes s))) ∧ Below w.heap.size w w' := by
  have hrb := fun (w' : World) => run_bytes_string (P := Tryz.prog) (w'.alloc (.cells #[.int .u8 (s.size : Int)] 5)) 66 9 5 w'.heap.size 0 1 1 [UInt8.ofNat s.size] Tryz.underlying66 Tryz.underlying5 Tryz.underlying9 rfl (fun j v hv => by
    have : j = 0 := by have := (List.getElem?_eq_some_iff.1 hv).1; simp [byteCells] at this; omega
    subst this
    simp [byteCells] at hv
    rw [← hv, cell_of_heap (heap_alloc_new w' _)]
    simp; omega)
  have hlim : ¬ (9223372036854775807 < (bs [UInt8.ofNat s.size]).size + s.size) := by rw [bs_size]; simp; omega
  go_enter Tryz.func69, Tryz.ntmps69
  go_wp2_with fail
  go_ret
  refine ⟨congrArg (fun b => Ending.returned (.string b)) ?_, (Below.refl _ _).alloc (Nat.le_refl _) _⟩
  apply ByteArray.ext
  apply Array.ext'
  simp [textBytes, bs, bl]

theorem CurAt.below {w w' : World} {c : Nat} {f t l : ByteArray} (h : CurAt w c f t l) (hb : Below w.heap.size w w') : CurAt w' c f t l := heapR h hb
set_option maxRecDepth 100000 in
set_option maxHeartbeats 1000000 in
theorem last_any (c : Nat) (f t l : ByteArray) (w : World) (h : CurAt w c f t l) :
    Calls Tryz.prog 29 #[.pointer (some ⟨c, 0, none⟩)] w fun e w' => e = .returned (.tuple #[.string l, .bool (!l.toList.isEmpty)]) ∧ ∃ n, w' = w.drewN n := by
  have hc2 := cell_of_heap (o := 2) h
  go_enter Tryz.func29, Tryz.ntmps29
  go_wp2_with fail
  go_quiet (fail)
  go_wp2_with fail
  go_ret2
  exact ⟨rfl, nq, rfl⟩

/-- A text behind its length. -/
def tb (s : ByteArray) : ByteArray := bs (textBytes s)
theorem tb_size (s : ByteArray) : (tb s).size = s.size + 1 := by unfold tb; rw [bs_size, textBytes_length]
theorem tb_any (s : ByteArray) (w : World) (hs : s.size ≤ 255) :
    Calls Tryz.prog 69 #[.string s] w fun e w' => e = .returned (.string (tb s)) ∧ Below w.heap.size w w' := ctext_any s w hs
theorem saveB_eq (f t l : ByteArray) : saveB f t l = (if l.toList = [] then ⟨#[0]⟩ else ⟨#[1]⟩) ++ tb f ++ tb t ++ tb l := by
  unfold saveB tb
  apply ByteArray.ext; apply Array.ext'
  split <;> simp [bs]

set_option maxRecDepth 100000 in
set_option maxHeartbeats 1000000 in
theorem save_any (c : Nat) (f t l : ByteArray) (w : World) (h : CurAt w c f t l) (hf : f.size ≤ 255) (ht : t.size ≤ 255) (hl : l.size ≤ 255) :
    Calls Tryz.prog 26 #[.pointer (some ⟨c, 0, none⟩)] w fun e w' => e = .returned (.string (saveB f t l)) ∧ Below w.heap.size w w' := by
  have hbox : ∀ (w' : World) (o : Nat), Below w.heap.size w w' → w'.cell? ⟨c, o, none⟩ = (#[.string f, .string t, .string l] : Array Value)[o]? := boxR h
  rw [saveB_eq]
  have hl1 : ∀ P : ByteArray, P.size = 1 → ¬ (9223372036854775807 < P.size + (tb f).size) := fun P hP => by rw [tb_size]; omega
  have hl2 : ∀ P : ByteArray, P.size = 1 → ¬ (9223372036854775807 < P.size + (tb f).size + (tb t).size) := fun P hP => by rw [tb_size, tb_size]; omega
  have hl3 : ∀ P : ByteArray, P.size = 1 → ¬ (9223372036854775807 < P.size + (tb f).size + (tb t).size + (tb l).size) := fun P hP => by rw [tb_size, tb_size, tb_size]; omega
  have HL1 := Lib.hid hl1
  have HL2 := Lib.hid hl2
  have HL3 := Lib.hid hl3
  have hb9 := Below.refl w.heap.size w
  clear h hl1 hl2 hl3
  have key : ∀ P : ByteArray, P.size = 1 → Hid (P.size = 1) := fun _ h => h
  by_cases hle : l.toList = []
  · have h1 : (!l.toList.isEmpty) = false := by rw [hle]; rfl
    rw [if_pos hle]
    have hps : (⟨#[0]⟩ : ByteArray).size = 1 := rfl
    go_enter Tryz.func26, Tryz.ntmps26
    go_wp2_with fail
    generalize hPP : (⟨#[0]⟩ : ByteArray) = P at *
    have HPP := Lib.hid hPP
    clear hPP
    have hl1 := HL1.out P hps
    have hl2 := HL2.out P hps
    have hl3 := HL3.out P hps
    clear hps
    go_region_held3 (fun w' => Below w.heap.size w w')
      (first | exact (Below.refl _ _).drew | exact keepBelow (by assumption) (by assumption))
      ((go_at_call 69; refine (tb_any _ _ (by assumption)).mono ?_; rintro e w' ⟨rfl, hb⟩))
    all_goals go_wp2_with fail
    all_goals
      obtain rfl := HPP.out
      go_ret
      exact ⟨rfl, by assumption⟩
  · have h1 : (!l.toList.isEmpty) = true := by cases h : l.toList with
      | nil => exact absurd h hle
      | cons a b => rfl
    rw [if_neg hle]
    have hps : (⟨#[1]⟩ : ByteArray).size = 1 := rfl
    go_enter Tryz.func26, Tryz.ntmps26
    go_wp2_with fail
    generalize hPP : (⟨#[1]⟩ : ByteArray) = P at *
    have HPP := Lib.hid hPP
    clear hPP
    have hl1 := HL1.out P hps
    have hl2 := HL2.out P hps
    have hl3 := HL3.out P hps
    clear hps
    go_region_held3 (fun w' => Below w.heap.size w w')
      (first | exact (Below.refl _ _).drew | exact keepBelow (by assumption) (by assumption))
      ((go_at_call 69; refine (tb_any _ _ (by assumption)).mono ?_; rintro e w' ⟨rfl, hb⟩))
    all_goals go_wp2_with fail
    all_goals
      obtain rfl := HPP.out
      go_ret
      exact ⟨rfl, by assumption⟩
end Go.Proofs.YtabngdpijbpgeaaGreat
