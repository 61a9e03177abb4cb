/- Base words for the walks of this seat: strings' order, pairs, leaves, rows in memory; nothing of a law. -/
import Derived.WalkKit
import Derived.WalkLawsBesides
import Derived.WalkSpells
import Derived.BigQuiet
import Derived.Deep.QuietTactic
import Derived.Deep.DeepFit
import Derived.Deep.DeepCutAuto
import Derived.Lib.Hide
import Derived.Deep.RegionHeld3
import Derived.Deep.RegionWith
import Derived.Test.YtabngdpijbpgeaaGreatProg
set_option linter.unusedVariables false
set_option linter.unusedSimpArgs false
namespace Go.Proofs.YtabngdpijbpgeaaGreat
open Go Go.RowKit

abbrev Pair := ByteArray × ByteArray
def ltB (a b : ByteArray) : Bool := Op.bytesLess a.toList b.toList
def eqB (a b : ByteArray) : Bool := a.toList == b.toList
def keyB (s : ByteArray) : Bool := !s.toList.isEmpty && decide ((s.size : Int) ≤ 16)
def valueB (s : ByteArray) : Bool := decide ((s.size : Int) ≤ 32)
/-- A bound on strings and rows that no walk passes. -/
abbrev big : Nat := 1048576

structure LeafD where
  pairs : List Pair
  high : ByteArray
  next : Int

/-- Cells of a row of elements, in a block of elements of type ty (or none of them). -/
def Sl (w : World) (ty : Nat) (a : Option Addr) (cs : List Value) : Prop :=
  cs = [] ∨ ∃ b off c fz, a = some ⟨b, off, none⟩ ∧ w.heap[b]? = some (.cells c ty fz) ∧ ∀ i v, cs[i]? = some v → c[off + i]? = some v

theorem Sl.nil (w : World) (ty : Nat) (a : Option Addr) : Sl w ty a [] := .inl rfl

theorem heap_lt {w : World} {b : Nat} {o : Obj} (h : w.heap[b]? = some o) : b < w.heap.size := by
  rw [Array.getElem?_eq_some_iff] at h
  exact h.1

theorem cell_of_heap {w : World} {b o : Nat} {c : Array Value} {ty : Nat} {fz : Nat × Nat} (h : w.heap[b]? = some (.cells c ty fz)) : w.cell? ⟨b, o, none⟩ = c[o]? := by
  simp [World.cell?, h]

theorem Sl.below {w w' : World} {ty : Nat} {a : Option Addr} {cs : List Value} (h : Sl w ty a cs) (hb : Below w.heap.size w w') : Sl w' ty a cs := by
  rcases h with h | ⟨b, off, c, fz, ha, hh, hc⟩
  · exact .inl h
  · exact .inr ⟨b, off, c, fz, ha, (hb.block b (heap_lt hh)).trans hh, hc⟩

theorem Sl.cell {w : World} {ty : Nat} {a : Option Addr} {cs : List Value} (h : Sl w ty a cs) {i : Nat} {v : Value} (hv : cs[i]? = some v) :
    ∃ b off, a = some ⟨b, off, none⟩ ∧ b < w.heap.size ∧ ∀ j u, cs[j]? = some u → w.cell? ⟨b, off + j, none⟩ = some u := by
  rcases h with h | ⟨b, off, c, fz, ha, hh, hc⟩
  · subst h; simp at hv
  · exact ⟨b, off, ha, heap_lt hh, fun j u hu => (cell_of_heap hh).trans (hc j u hu)⟩

def pairCells : List Pair → List Value
  | [] => []
  | p :: r => .string p.1 :: .string p.2 :: pairCells r

theorem pairCells_get : ∀ (ps : List Pair) (k : Nat) (p : Pair), ps[k]? = some p → (pairCells ps)[k * 2]? = some (.string p.1) ∧ (pairCells ps)[k * 2 + 1]? = some (.string p.2)
  | [], k, p, h => by simp at h
  | q :: r, 0, p, h => by simp at h; subst h; simp [pairCells]
  | q :: r, k + 1, p, h => by
    have := pairCells_get r k p (by simpa using h)
    rw [show (k + 1) * 2 = k * 2 + 1 + 1 from by omega]
    simpa [pairCells] using this
theorem pairCells_length (ps : List Pair) : (pairCells ps).length = ps.length * 2 := by
  induction ps with
  | nil => rfl
  | cons p r ih => simp [pairCells, ih]; omega
theorem pairCells_append (a b : List Pair) : pairCells (a ++ b) = pairCells a ++ pairCells b := by
  induction a with
  | nil => rfl
  | cons p r ih => simp [pairCells, ih]

/-- The cells of pair k. -/
theorem Sl.pair {w : World} {ty : Nat} {a : Option Addr} {ps : List Pair} (h : Sl w ty a (pairCells ps)) {k : Nat} {p : Pair} (hk : ps[k]? = some p) :
    ∃ b off, a = some ⟨b, off, none⟩ ∧ b < w.heap.size ∧ w.cell? ⟨b, off + k * 2, none⟩ = some (.string p.1) ∧ w.cell? ⟨b, off + k * 2 + 1, none⟩ = some (.string p.2) := by
  have hp := pairCells_get ps k p hk
  obtain ⟨b, off, ha, hlt, hc⟩ := h.cell hp.1
  exact ⟨b, off, ha, hlt, hc _ _ hp.1, by simpa [Nat.add_assoc] using hc _ _ hp.2⟩

/-- .. in whatever world that leaves this one alone. -/
theorem Sl.pairR {w : World} {ty : Nat} {a : Option Addr} {ps : List Pair} (h : Sl w ty a (pairCells ps)) {k : Nat} {p : Pair} (hk : ps[k]? = some p) :
    ∃ b off, a = some ⟨b, off, none⟩ ∧ b < w.heap.size ∧ (∀ w', Below w.heap.size w w' → w'.cell? ⟨b, off + k * 2, none⟩ = some (.string p.1)) ∧ (∀ w', Below w.heap.size w w' → w'.cell? ⟨b, off + k * 2 + 1, none⟩ = some (.string p.2)) := by
  obtain ⟨b, off, ha, hlt, h1, h2⟩ := h.pair hk
  exact ⟨b, off, ha, hlt, fun w' hb => (hb.cell (p := ⟨b, _, none⟩) hlt).trans h1, fun w' hb => (hb.cell (p := ⟨b, _, none⟩) hlt).trans h2⟩

theorem bcell {W w1 : World} (hb : Below W.heap.size W w1) : (∀ b o, b < W.heap.size → w1.cell? ⟨b, o, none⟩ = W.cell? ⟨b, o, none⟩) ∧ (∀ b o, b < W.heap.size → w1.frozen? ⟨b, o, none⟩ = W.frozen? ⟨b, o, none⟩) :=
  ⟨fun b o h => hb.cell (p := ⟨b, o, none⟩) h, fun b o h => hb.frozen (p := ⟨b, o, none⟩) h⟩

theorem keepBelow {W w1 w2 : World} (h : Below W.heap.size W w1) (h2 : Below w1.heap.size w1 w2) : Below W.heap.size W w2 := h.trans (h2.mono h.size)
theorem keepAlloc {W w1 : World} (h : Below W.heap.size W w1) (o : Obj) : Below W.heap.size W (w1.alloc o) := h.alloc h.size o
theorem keepDrew {W w1 : World} (h : Below W.heap.size W w1) : Below W.heap.size W w1.drew := h.drew

/-- A box that the call has just made: in whatever world that leaves W alone. -/
theorem box_facts (w : World) (cs : Array Value) (ty : Nat) {W : World} (hW : w.alloc (.cells cs ty) = W) :
    Below w.heap.size w W ∧ w.heap.size < W.heap.size ∧ ∀ (w' : World) (o : Nat), Below W.heap.size W w' → w'.cell? ⟨w.heap.size, o, none⟩ = cs[o]? := by
  subst hW
  refine ⟨(Below.refl _ _).alloc (Nat.le_refl _) _, by simp, fun w' o hb => ?_⟩
  rw [hb.cell (p := ⟨w.heap.size, o, none⟩) (by simp)]
  exact cell_of_heap (heap_alloc_new w _)

def pairsSize (ps : List Pair) : Nat := (ps.map fun p => 2 + p.1.size + p.2.size).sum
def leafSize (l : LeafD) : Int := 5 + l.high.size + pairsSize l.pairs
def fitsL (l : LeafD) : Bool := decide (leafSize l - l.high.size + 16 ≤ 252)
def lastKey (d : ByteArray) : List Pair → ByteArray
  | [] => d
  | p :: r => lastKey p.1 r
def okPairs (last : ByteArray) : List Pair → Bool
  | [] => true
  | p :: r => (keyB p.1 && valueB p.2 && !(ltB p.1 last || eqB p.1 last)) && okPairs p.1 r
def emptyS : ByteArray := ⟨#[]⟩
def highB (last high : ByteArray) : Bool := high.toList.isEmpty || (keyB high && ltB last high)
def rightL (l : LeafD) : Bool := okPairs emptyS l.pairs && highB (lastKey emptyS l.pairs) l.high && decide (0 ≤ l.next) && decide (l.next ≤ 1024) && fitsL l
/-- Sizes that no walk passes. -/
def PB (ps : List Pair) : Prop := ps.length ≤ big ∧ ∀ p ∈ ps, p.1.size ≤ big ∧ p.2.size ≤ big
def LB (l : LeafD) : Prop := PB l.pairs ∧ l.high.size ≤ big

theorem PB.at {ps : List Pair} (h : PB ps) {k : Nat} {p : Pair} (hk : ps[k]? = some p) : p.1.size ≤ 1048576 ∧ p.2.size ≤ 1048576 := h.2 p (List.mem_of_getElem? hk)
theorem pairsSize_le (ps : List Pair) (h : ∀ p ∈ ps, p.1.size ≤ big ∧ p.2.size ≤ big) : pairsSize ps ≤ ps.length * 2097154 := by
  induction ps with
  | nil => simp [pairsSize]
  | cons p r ih =>
    have h1 := h p (by simp)
    have h2 := ih fun q hq => h q (by simp [hq])
    simp only [pairsSize, List.map_cons, List.sum_cons, List.length_cons] at *
    unfold big at h1
    omega
theorem pairsSize_take (ps : List Pair) (k : Nat) (h : PB ps) : pairsSize (ps.take k) ≤ 2199027449856 := by
  have := pairsSize_le (ps.take k) (fun p hp => h.2 p (List.mem_of_mem_take hp))
  have h2 : (ps.take k).length ≤ ps.length := by simp; omega
  have := h.1
  unfold big at this
  omega
theorem pairsSize_succ (ps : List Pair) (k : Nat) (p : Pair) (h : ps[k]? = some p) : pairsSize (ps.take (k + 1)) = pairsSize (ps.take k) + (2 + p.1.size + p.2.size) := by
  rw [List.take_add_one, h]; simp [pairsSize]

theorem okPairs_succ (ps : List Pair) (k : Nat) (p : Pair) (d : ByteArray) (h : ps[k]? = some p) :
    okPairs d (ps.take (k + 1)) = (okPairs d (ps.take k) && (keyB p.1 && valueB p.2 && !(ltB p.1 (lastKey d (ps.take k)) || eqB p.1 (lastKey d (ps.take k))))) ∧ lastKey d (ps.take (k + 1)) = p.1 := by
  induction ps generalizing k d with
  | nil => simp at h
  | cons q r ih =>
    cases k with
    | zero => simp at h; subst h; simp [okPairs, lastKey]
    | succ k =>
      have h' : r[k]? = some p := by simpa using h
      have := ih k q.1 h'
      simp only [List.take_succ_cons, okPairs, lastKey, this, and_true, Bool.and_assoc]
/-- A prefix that is not in order spoils the row. -/
theorem okPairs_take_false (ps : List Pair) (k : Nat) (d : ByteArray) (h : okPairs d (ps.take k) = false) : okPairs d ps = false := by
  induction ps generalizing k d with
  | nil => simp [okPairs] at h
  | cons q r ih =>
    cases k with
    | zero => simp [okPairs] at h
    | succ k =>
      simp only [List.take_succ_cons, okPairs, Bool.and_eq_false_iff] at h ⊢
      rcases h with h | h
      · exact .inl h
      · exact .inr (ih k _ h)
end Go.Proofs.YtabngdpijbpgeaaGreat
