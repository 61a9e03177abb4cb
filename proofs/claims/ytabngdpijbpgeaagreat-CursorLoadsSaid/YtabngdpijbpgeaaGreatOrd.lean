/- The order of strings, plain: a strict total order; and what a search in a row of pairs that rise finds. -/
import Derived.Test.YtabngdpijbpgeaaGreatBase
import Derived.Lib.Bytealg
set_option linter.unusedVariables false
set_option linter.unusedSimpArgs false
namespace Go.Proofs.YtabngdpijbpgeaaGreat
open Go Go.RowKit

theorem bl_irrefl : ∀ x : List UInt8, Op.bytesLess x x = false
  | [] => rfl
  | a :: x => by simp [Op.bytesLess, bl_irrefl x]
theorem bl_trans : ∀ x y z : List UInt8, Op.bytesLess x y = true → Op.bytesLess y z = true → Op.bytesLess x z = true
  | _, _, [], _, h => by cases ‹List UInt8› <;> simp [Op.bytesLess] at h
  | [], _, _ :: _, _, _ => rfl
  | _ :: _, [], _ :: _, h, _ => by simp [Op.bytesLess] at h
  | a :: x, b :: y, c :: z, h, k => by
    simp only [Op.bytesLess, Bool.or_eq_true, decide_eq_true_eq, Bool.and_eq_true, beq_iff_eq] at h k ⊢
    rcases h with h | ⟨rfl, h⟩ <;> rcases k with k | ⟨rfl, k⟩
    · exact .inl (UInt8.lt_trans h k)
    · exact .inl h
    · exact .inl k
    · exact .inr ⟨rfl, bl_trans x y z h k⟩
theorem bl_total : ∀ x y : List UInt8, Op.bytesLess x y = false → Op.bytesLess y x = false → x = y
  | [], [], _, _ => rfl
  | [], _ :: _, h, _ => by simp [Op.bytesLess] at h
  | _ :: _, [], _, h => by simp [Op.bytesLess] at h
  | a :: x, b :: y, h, k => by
    simp only [Op.bytesLess, Bool.or_eq_false_iff, decide_eq_false_iff_not, Bool.and_eq_false_iff, beq_eq_false_iff_ne] at h k
    have e : a = b := by
      exact UInt8.le_antisymm (UInt8.not_lt.1 k.1) (UInt8.not_lt.1 h.1)
    subst e
    simp at h k
    rw [bl_total x y h k]

theorem toList_inj {a b : ByteArray} (h : a.toList = b.toList) : a = b := by
  rw [ByteArray.toList_eq, ByteArray.toList_eq] at h
  exact ByteArray.ext (Array.ext' h)
theorem eqB_iff {a b : ByteArray} : eqB a b = true ↔ a = b := by
  unfold eqB
  simp only [beq_iff_eq]
  exact ⟨toList_inj, fun h => by rw [h]⟩
theorem eqB_false {a b : ByteArray} : eqB a b = false ↔ a ≠ b := by
  rw [← Bool.not_eq_true, eqB_iff]
theorem lt_irrefl (a : ByteArray) : ltB a a = false := bl_irrefl _
theorem lt_trans {a b c : ByteArray} (h : ltB a b = true) (k : ltB b c = true) : ltB a c = true := bl_trans _ _ _ h k
theorem lt_asymm {a b : ByteArray} (h : ltB a b = true) : ltB b a = false := by
  cases hk : ltB b a
  · rfl
  · have := lt_trans h hk; rw [lt_irrefl] at this; simp at this
theorem lt_total {a b : ByteArray} (h : ltB a b = false) (k : ltB b a = false) : a = b := toList_inj (bl_total _ _ h k)
theorem lt_ne {a b : ByteArray} (h : ltB a b = true) : a ≠ b := by rintro rfl; rw [lt_irrefl] at h; simp at h
/-- not below, and below: the two ways to compose. -/
theorem lt_of_lt_of_not {a b c : ByteArray} (h : ltB a b = true) (k : ltB c b = false) : ltB a c = true := by
  cases hc : ltB b c
  · rwa [← lt_total k hc] at h
  · exact lt_trans h hc
theorem lt_of_not_of_lt {a b c : ByteArray} (h : ltB b a = false) (k : ltB b c = true) : ltB a c = true := by
  cases hc : ltB a b
  · rwa [← lt_total hc h] at k
  · exact lt_trans hc k
theorem not_lt_trans {a b c : ByteArray} (h : ltB a b = false) (k : ltB b c = false) : ltB a c = false := by
  cases hc : ltB a c
  · rfl
  · have := lt_of_lt_of_not hc k; rw [this] at h; simp at h
theorem not_lt_iff {a b : ByteArray} : ltB a b = false ↔ (a = b ∨ ltB b a = true) := by
  constructor
  · intro h
    cases hk : ltB b a
    · exact .inl (lt_total h hk)
    · exact .inr rfl
  · rintro (rfl | h)
    · exact lt_irrefl _
    · exact lt_asymm h

theorem cmp_list : ∀ x y : List UInt8, Lib.compareBytes x y = if Op.bytesLess x y then -1 else if Op.bytesLess y x then 1 else 0
  | [], [] => rfl
  | [], _ :: _ => rfl
  | _ :: _, [] => rfl
  | a :: x, b :: y => by
    simp only [Lib.compareBytes, Op.bytesLess, cmp_list x y]
    by_cases h1 : a < b
    · simp [h1]
    · by_cases h2 : b < a
      · simp [h1, h2]
        have : a ≠ b := by rintro rfl; exact h1 h2
        simp [this]
      · have e : a = b := UInt8.le_antisymm (UInt8.not_lt.1 h2) (UInt8.not_lt.1 h1)
        subst e
        simp [h1]
def cmpB (a b : ByteArray) : Int := Lib.compareBytes a.data.toList b.data.toList
theorem cmpB_eq (a b : ByteArray) : cmpB a b = if ltB a b then -1 else if ltB b a then 1 else 0 := by
  unfold cmpB ltB
  rw [cmp_list, ByteArray.toList_eq, ByteArray.toList_eq]
theorem cmpB_lt {a b : ByteArray} : decide (cmpB a b < 0) = ltB a b := by
  rw [cmpB_eq]
  cases h : ltB a b <;> simp
  split <;> omega
theorem cmpB_zero {a b : ByteArray} : (cmpB a b == 0) = eqB a b := by
  rw [cmpB_eq]
  cases h : ltB a b <;> cases k : ltB b a <;> simp
  · exact eqB_iff.2 (lt_total h k)
  · exact eqB_false.2 (lt_ne k).symm
  · exact eqB_false.2 (lt_ne h)
  · exact eqB_false.2 (lt_ne h)

/-! ### rows of pairs that rise -/
/-- How many pairs have a key below one. -/
def below (key : ByteArray) : List Pair → Nat
  | [] => 0
  | p :: r => if ltB p.1 key then below key r + 1 else 0
def Rises (ps : List Pair) : Prop := ∀ (i j : Nat) (p q : Pair), i < j → ps[i]? = some p → ps[j]? = some q → ltB p.1 q.1 = true

theorem okPairs_head {d : ByteArray} {p : Pair} {r : List Pair} (h : okPairs d (p :: r) = true) : ltB d p.1 = true ∧ keyB p.1 = true ∧ valueB p.2 = true ∧ okPairs p.1 r = true := by
  simp only [okPairs, Bool.and_eq_true, Bool.not_eq_true', Bool.or_eq_false_iff] at h
  obtain ⟨⟨⟨h1, h2⟩, h3, h4⟩, h5⟩ := h
  refine ⟨?_, h1, h2, h5⟩
  cases hd : ltB d p.1
  · exact absurd (lt_total h3 hd) (eqB_false.1 h4)
  · rfl
theorem okPairs_lt {d : ByteArray} {ps : List Pair} (h : okPairs d ps = true) : ∀ (i : Nat) (p : Pair), ps[i]? = some p → ltB d p.1 = true := by
  induction ps generalizing d with
  | nil => simp
  | cons q r ih =>
    obtain ⟨h1, _, _, h2⟩ := okPairs_head h
    intro i p hp
    cases i with
    | zero => simp at hp; subst hp; exact h1
    | succ i => exact lt_trans h1 (ih h2 i p (by simpa using hp))
theorem okPairs_rises {d : ByteArray} {ps : List Pair} (h : okPairs d ps = true) : Rises ps := by
  induction ps generalizing d with
  | nil => intro i j p q _ hp; simp at hp
  | cons z r ih =>
    obtain ⟨h1, _, _, h2⟩ := okPairs_head h
    intro i j p q hij hp hq
    cases j with
    | zero => omega
    | succ j =>
      cases i with
      | zero => simp at hp; subst hp; exact okPairs_lt h2 j q (by simpa using hq)
      | succ i => exact ih h2 i j p q (by omega) (by simpa using hp) (by simpa using hq)
theorem below_le (key : ByteArray) (ps : List Pair) : below key ps ≤ ps.length := by
  induction ps with
  | nil => simp [below]
  | cons p r ih => simp only [below, List.length_cons]; split <;> omega
/-- The first that is not below: where a search ends. -/
theorem below_eq {ps : List Pair} {key : ByteArray} {n : Nat} (hn : n ≤ ps.length) (h1 : ∀ (i : Nat) (p : Pair), i < n → ps[i]? = some p → ltB p.1 key = true)
    (h2 : ∀ (p : Pair), ps[n]? = some p → ltB p.1 key = false) : below key ps = n := by
  induction ps generalizing n with
  | nil => simp at hn; simp [below, hn]
  | cons p r ih =>
    cases n with
    | zero => simp [below, h2 p (by simp)]
    | succ n =>
      have := h1 0 p (by omega) (by simp)
      simp only [below, this, if_true]
      rw [ih (by simpa using hn) (fun i q hi hq => h1 (i + 1) q (by omega) (by simpa using hq)) (fun q hq => h2 q (by simpa using hq))]
def hasKey (key : ByteArray) (ps : List Pair) : Bool := match ps[below key ps]? with | some p => eqB p.1 key | none => false
theorem rises_lt {ps : List Pair} (h : Rises ps) {key : ByteArray} {m : Nat} {p : Pair} (hp : ps[m]? = some p) (hk : ltB p.1 key = true) : ∀ (i : Nat) (q : Pair), i ≤ m → ps[i]? = some q → ltB q.1 key = true := by
  intro i q hi hq
  rcases Nat.lt_or_eq_of_le hi with hi | rfl
  · exact lt_trans (h i m q p hi hq hp) hk
  · rw [hp] at hq; cases hq; exact hk
theorem rises_ge {ps : List Pair} (h : Rises ps) {key : ByteArray} {m : Nat} {p : Pair} (hp : ps[m]? = some p) (hk : ltB p.1 key = false) : ∀ (i : Nat) (q : Pair), m ≤ i → ps[i]? = some q → ltB q.1 key = false := by
  intro i q hi hq
  rcases Nat.lt_or_eq_of_le hi with hi | rfl
  · cases hc : ltB q.1 key
    · rfl
    · have := lt_trans (h m i p q hi hp hq) hc; rw [hk] at this; simp at this
  · rw [hp] at hq; cases hq; exact hk
end Go.Proofs.YtabngdpijbpgeaaGreat
