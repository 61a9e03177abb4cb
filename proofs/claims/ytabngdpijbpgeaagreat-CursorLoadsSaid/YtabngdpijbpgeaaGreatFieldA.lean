/- Package field: places, room, bytes over others, numbers as bytes. -/
import Derived.Test.YtabngdpijbpgeaaGreatMem
import Derived.Laws.IdiomCopy
import Derived.Laws.BytesArg
import Derived.Lib.ConvBytes
import Derived.Lib.AppendStr
set_option linter.unusedVariables false
set_option linter.unusedSimpArgs false
namespace Go.Proofs.YtabngdpijbpgeaaGreat
open Go Go.RowKit

def bs (l : List UInt8) : ByteArray := ⟨l.toArray⟩
def bl (s : ByteArray) : List UInt8 := s.data.toList
theorem bl_length (s : ByteArray) : (bl s).length = s.size := by
  show s.data.toList.length = s.data.size
  exact Array.length_toList
theorem bl_bs (l : List UInt8) : bl (bs l) = l := rfl
theorem bs_bl (s : ByteArray) : bs (bl s) = s := by
  apply ByteArray.ext
  show s.data.toList.toArray = s.data
  exact Array.toArray_toList
theorem bs_size (l : List UInt8) : (bs l).size = l.length := by unfold bs; simp only [ByteArray.size, List.size_toArray]
def byteCells (l : List UInt8) : List Value := l.map fun b => .int .u8 b.toNat
theorem byteCells_length (l : List UInt8) : (byteCells l).length = l.length := by simp [byteCells]
theorem byteCells_oneCell (l : List UInt8) : ∀ v ∈ byteCells l, v.oneCell' = true := by
  intro v hv; simp only [byteCells, List.mem_map] at hv; obtain ⟨b, _, rfl⟩ := hv; rfl

def placeE (s : ByteArray) (p : Int) : Int := if 0 ≤ p ∧ p ≤ s.size then 0 else 1
theorem place_any (s : ByteArray) (p : Int) (w : World) (hs : s.size ≤ 140737488351232) :
    Calls Tryz.prog 113 #[.string s, .int .i64 p] w fun e w' => e = .returned (.int .i64 (placeE s p)) ∧ w = w' := by
  by_cases h : 0 ≤ p ∧ p ≤ s.size
  · have e1 := Lib.hid (show placeE s p = 0 from if_pos h)
    obtain ⟨h1, h2⟩ := h
    go_enter Tryz.func113, Tryz.ntmps113
    go_wp2
    go_ret
    exact ⟨by rw [e1.out]; rfl, rfl⟩
  · have e1 := Lib.hid (show placeE s p = 1 from if_neg h)
    by_cases h1 : p < 0
    · clear h
      go_enter Tryz.func113, Tryz.ntmps113
      go_wp2
      go_ret
      exact ⟨by rw [e1.out]; rfl, rfl⟩
    · have h2 : (s.size : Int) < p := by omega
      clear h
      go_enter Tryz.func113, Tryz.ntmps113
      go_wp2
      go_ret
      exact ⟨by rw [e1.out]; rfl, rfl⟩

def roomE (s : ByteArray) (p size : Int) : Int := if size < 1 ∨ size > 8 ∨ placeE s p = 1 then 1 else if s.size - p < size then 3 else 0
theorem room_any (s : ByteArray) (p size : Int) (w : World) (hs : s.size ≤ 140737488351232) :
    Calls Tryz.prog 208 #[.string s, .int .i64 p, .int .i64 size] w fun e w' => e = .returned (.int .i64 (roomE s p size)) ∧ w = w' := by
  by_cases h1 : size < 1
  · have e1 := Lib.hid (show roomE s p size = 1 from if_pos (.inl h1))
    go_enter Tryz.func208, Tryz.ntmps208
    go_wp2_with fail
    go_ret
    exact ⟨by rw [e1.out]; rfl, rfl⟩
  by_cases h2 : size > 8
  · have e1 := Lib.hid (show roomE s p size = 1 from if_pos (.inr (.inl h2)))
    go_enter Tryz.func208, Tryz.ntmps208
    go_wp2_with fail
    go_ret
    exact ⟨by rw [e1.out]; rfl, rfl⟩
  by_cases h3 : 0 ≤ p ∧ p ≤ s.size
  · have e0 : placeE s p = 0 := if_pos h3
    have e2 : ¬ (size < 1 ∨ size > 8 ∨ placeE s p = 1) := by rw [e0]; omega
    obtain ⟨h4, h5⟩ := h3
    by_cases h6 : s.size - p < size
    · have e1 := Lib.hid (show roomE s p size = 3 by unfold roomE; rw [if_neg e2, if_pos h6])
      have E0 := Lib.hid e0
      clear e0 e2
      go_enter Tryz.func208, Tryz.ntmps208
      go_wp2_with (go_at_call 113; refine (place_any _ _ _ hs).mono ?_; rw [E0.out]; rintro e w' ⟨rfl, rfl⟩)
      go_ret
      exact ⟨by rw [e1.out]; rfl, rfl⟩
    · have e1 := Lib.hid (show roomE s p size = 0 by unfold roomE; rw [if_neg e2, if_neg h6])
      have E0 := Lib.hid e0
      clear e0 e2
      go_enter Tryz.func208, Tryz.ntmps208
      go_wp2_with (go_at_call 113; refine (place_any _ _ _ hs).mono ?_; rw [E0.out]; rintro e w' ⟨rfl, rfl⟩)
      go_ret
      exact ⟨by rw [e1.out]; rfl, rfl⟩
  · have e0 : placeE s p = 1 := if_neg h3
    have e1 := Lib.hid (show roomE s p size = 1 from if_pos (.inr (.inr e0)))
    have E0 := Lib.hid e0
    clear e0 h3
    go_enter Tryz.func208, Tryz.ntmps208
    go_wp2_with (go_at_call 113; refine (place_any _ _ _ hs).mono ?_; rw [E0.out]; rintro e w' ⟨rfl, rfl⟩)
    go_ret
    exact ⟨by rw [e1.out]; rfl, rfl⟩

/-! ### bytes over others -/
def overL (l : List UInt8) (p : Nat) (t : List UInt8) : List UInt8 := l.take p ++ t ++ l.drop (p + t.length)
theorem overL_length (l : List UInt8) (p : Nat) (t : List UInt8) (h : p + t.length ≤ l.length) : (overL l p t).length = l.length := by simp [overL]; omega

def overV (l : List Value) (p : Nat) (t : List Value) : List Value := l.take p ++ t ++ l.drop (p + t.length)
theorem run_bytes_string {P : Program} (w : World) (src dst e b off len cap : Nat) (l : List UInt8) (hs : P.underlying src = some (.slice e)) (he : P.underlying e = some (.int .u8)) (hd : P.underlying dst = some .string)
    (hlen : l.length = len) (hc : ∀ j v, (byteCells l)[j]? = some v → w.cell? ⟨b, off + j, none⟩ = some v) :
    (convert src dst (.slice (some ⟨b, off, none⟩) len cap)).run P w = .ok (.string (bs l)) w := by
  have := run_convert_bytes_arg (P := P) w src e hs he b off len cap (l.map fun x => (x.toNat : Int)) (by simpa using hlen) (fun i hi => by
    apply hc
    have hi' : i < l.length := by omega
    simp [byteCells, List.getElem?_map, List.getD, hi']) dst hd
  rw [this]
  congr 2
  apply ByteArray.ext
  show (strOfNums _).data = l.toArray
  apply Array.ext'
  rw [strOfNums_data]
  show _ = l
  clear hlen hc this
  induction l with
  | nil => rfl
  | cons x r ih => simp only [List.map_cons, ih]; simp

theorem byteCells_get {l : List UInt8} {j : Nat} {v : Value} (h : (byteCells l)[j]? = some v) : ∃ b, l[j]? = some b ∧ v = .int .u8 b.toNat := by
  simp only [byteCells, List.getElem?_map, Option.map_eq_some_iff] at h
  obtain ⟨b, h1, h2⟩ := h
  exact ⟨b, h1, h2.symm⟩

/-- []byte(s): a new block with the bytes, which may be written. -/
theorem conv_bytes {P : Program} (w : World) (src dst e : TypeId) (s : ByteArray) (hs : P.underlying src = some .string) (hd : P.underlying dst = some (.slice e)) (he : P.underlying e = some (.int .u8)) :
    ∃ c W1, (convert src dst (.string s)).run P w = .ok (.slice (some ⟨w.heap.size, 0, none⟩) s.size c) W1 ∧ Below w.heap.size w W1 ∧ w.heap.size < W1.heap.size ∧ s.size ≤ c ∧
      (∀ j v, (byteCells (bl s))[j]? = some v → W1.cell? ⟨w.heap.size, j, none⟩ = some v) ∧ (∀ j, j < s.size → W1.frozen? ⟨w.heap.size, j, none⟩ = false) := by
  refine ⟨_, _, Lib.run_convert_string_bytes (P := P) w src dst e s hs hd he, ⟨rfl, rfl, rfl, ?_, fun k hk => Lib.bytesWorld_at_old w e s k hk⟩, ?_, grownCap_ge _ _ _ _, ?_, ?_⟩
  · rw [Lib.bytesWorld_size]; omega
  · rw [Lib.bytesWorld_size]; omega
  · intro j v hv
    obtain ⟨b, hb, rfl⟩ := byteCells_get hv
    have hj := (List.getElem?_eq_some_iff.1 hb).1
    rw [bl_length] at hj
    rw [Lib.bytesWorld_cell w e s j hj]
    have : s.data.toList.getD j 0 = b := by rw [List.getD, show s.data.toList[j]? = some b from hb]; rfl
    rw [this]
  · intro j hj
    have hsz : s.size ≤ (Lib.bytesCells w e s).size := by
      unfold Lib.bytesCells
      rw [Array.size_append, Array.size_map]
      exact Nat.le_add_right _ _
    simp [World.frozen?, Lib.bytesWorld_at_new]
    omega

theorem setCells_below {B b : Nat} {w0 : World} (hb : B ≤ b) : ∀ (vs : List Value) (o : Nat) (w : World), Below B w0 w → Below B w0 (w.setCells b o vs)
  | [], _, _, h => h
  | v :: r, o, w, h => setCells_below hb r (o + 1) _ (h.setCell hb v)

theorem byteCells_overL (l t : List UInt8) (p : Nat) : byteCells (overL l p t) = overV (byteCells l) p (byteCells t) := by
  simp [byteCells, overL, overV, List.map_take, List.map_drop]

theorem setCells_cell (b : Nat) (vs : List Value) (p : Nat) (w : World) (L : List Value) (hL : ∀ j v, L[j]? = some v → w.cell? ⟨b, j, none⟩ = some v) (hp : p + vs.length ≤ L.length) :
    ∀ j v, (overV L p vs)[j]? = some v → (w.setCells b p vs).cell? ⟨b, j, none⟩ = some v := by
  intro j v hv
  have hsome : ∀ i, i < vs.length → (w.cell? ⟨b, p + i, none⟩).isSome = true := fun i hi => by
    rw [hL (p + i) _ (List.getElem?_eq_getElem (by omega))]; rfl
  unfold overV at hv
  rcases Nat.lt_or_ge j p with h1 | h1
  · rw [World.cell?_setCells_out b vs p w ⟨b, j, none⟩ (fun _ _ => .inl h1)]
    apply hL
    rw [List.append_assoc, List.getElem?_append_left (by simp; omega), List.getElem?_take] at hv
    rwa [if_pos h1] at hv
  · rcases Nat.lt_or_ge j (p + vs.length) with h2 | h2
    · have := World.cell?_setCells_in b vs p w hsome (j - p) (by omega)
      rw [show p + (j - p) = j by omega] at this
      rw [this]
      rw [List.append_assoc, List.getElem?_append_right (by simp; omega)] at hv
      rw [show j - (L.take p).length = j - p by simp; omega, List.getElem?_append_left (by omega)] at hv
      rw [List.getElem?_eq_getElem (by omega)] at hv
      exact hv
    · rw [World.cell?_setCells_out b vs p w ⟨b, j, none⟩ (fun _ _ => .inr h2)]
      apply hL
      rw [List.getElem?_append_right (by simp; omega)] at hv
      rw [List.getElem?_drop] at hv
      rw [← hv]; congr 1; simp; omega

set_option maxRecDepth 100000 in
set_option maxHeartbeats 1000000 in
theorem fover_any (s : ByteArray) (p : Nat) (a : Option Addr) (n cap : Nat) (t : List UInt8) (w : World) (ht : Row w 5 1 a n cap (byteCells t)) (h : p + n ≤ s.size) (h0 : 0 < n) (hs : s.size ≤ big) :
    Calls Tryz.prog 209 #[.string s, .int .i64 p, .slice a n cap] w fun e w' => e = .returned (.string (bs (overL (bl s) p t))) ∧ Below w.heap.size w w' := by
  unfold big at hs
  obtain ⟨c, W1, hrun, hb1, hlt, hc, hcell, hfr⟩ := conv_bytes (P := Tryz.prog) w 9 66 5 s Tryz.underlying9 Tryz.underlying66 Tryz.underlying5
  have ht1 := ht.below hb1
  have hn := ht.1
  rw [byteCells_length, Nat.mul_one] at hn
  obtain ⟨ad, rfl⟩ : ∃ ad, a = some ad := by
    cases a with
    | none => have := ht.2.2.2.1 rfl; have := ht.2.1; omega
    | some ad => exact ⟨ad, rfl⟩
  obtain ⟨W2, hW2⟩ : ∃ W2, W2 = W1.setCells w.heap.size p (byteCells t) := ⟨_, rfl⟩
  have hcopy := run_copy_cells (P := Tryz.prog) W1 66 66 3 5 w.heap.size p (s.size - p) (c - p) ad n cap (byteCells t) Tryz.underlying66 (by kernel_rfl)
    (by rw [byteCells_length]; show _ = min n (s.size - p); omega) (fun j v hv => ht1.sl.addr hv ad rfl)
    (fun j hj => by rw [byteCells_length] at hj; rw [hcell (p + j) _ (List.getElem?_eq_getElem (by rw [byteCells_length, bl_length]; omega))]; rfl)
    (fun j hj => by rw [byteCells_length] at hj; exact hfr _ (by omega)) (byteCells_oneCell t)
  rw [← hW2] at hcopy
  have hb2 : Below w.heap.size w W2 := by rw [hW2]; exact setCells_below (Nat.le_refl _) _ _ _ hb1
  have hback := run_bytes_string (P := Tryz.prog) W2 66 9 5 w.heap.size 0 s.size c (overL (bl s) p t) Tryz.underlying66 Tryz.underlying5 Tryz.underlying9
    (by rw [overL_length _ _ _ (by rw [bl_length]; omega), bl_length]) (fun j v hv => by
      rw [byteCells_overL] at hv
      rw [hW2, Nat.zero_add]
      exact setCells_cell _ _ _ _ _ hcell (by rw [byteCells_length, byteCells_length, bl_length]; omega) j v hv)
  have hcp : ¬ c = p := by omega
  have hn1 : p + 1 ≤ s.size := by omega
  clear hW2 hcell hfr ht ht1 hb1
  go_enter Tryz.func209, Tryz.ntmps209
  go_wp2_with fail
  go_ret
  exact ⟨rfl, hb2⟩
end Go.Proofs.YtabngdpijbpgeaaGreat
