/- A map from page numbers to texts, in memory: look-up, store, delete. -/
import Derived.Test.YtabngdpijbpgeaaGreatBitsD
import Derived.Maps.OwnSet
set_option linter.unusedVariables false
set_option linter.unusedSimpArgs false
namespace Go.Proofs.YtabngdpijbpgeaaGreat
open Go Go.RowKit Go.Maps Go.MapKept Go.ChangeMaps

def entryOf (x : Nat × ByteArray) : Value × Value := (.int .i64 x.1, .string x.2)
def entriesAre (arr : Array MapEntry) (m : List (Nat × ByteArray)) : Prop := arr.toList.map (fun e => (e.key, e.val)) = m.map entryOf
def MapAt (w : World) (b : Nat) (m : List (Nat × ByteArray)) : Prop := ∃ arr clock, w.heap[b]? = some (.map arr clock) ∧ entriesAre arr m

def mfind (m : List (Nat × ByteArray)) (i : Nat) : Option ByteArray := (m.find? fun x => x.1 == i).map (·.2)

theorem findNow_is (kind : TypeDesc) (hk : ∃ q, kind = .int q) : ∀ (es : List MapEntry) (m : List (Nat × ByteArray)) (i k : Nat), es.map (fun e => (e.key, e.val)) = m.map entryOf →
    Instr.findNow kind (.int .i64 i) es k = some ((m.findIdx? fun x => x.1 == i).map fun j => (k + j, .string ((mfind m i).getD ByteArray.empty)))
  | [], [], i, k, _ => by simp [Instr.findNow]
  | [], _ :: _, _, _, h => by simp at h
  | _ :: _, [], _, _, h => by simp at h
  | e :: es, x :: m, i, k, h => by
    obtain ⟨q, rfl⟩ := hk
    simp only [List.map_cons, List.cons.injEq, Prod.mk.injEq, entryOf] at h
    obtain ⟨⟨h1, h2⟩, h3⟩ := h
    have ih := findNow_is (.int q) ⟨q, rfl⟩ es m i (k + 1) h3
    unfold Instr.findNow
    rw [h1, h2, ih]
    by_cases hx : x.1 = i
    · simp [Instr.sameNow, hx, mfind, List.findIdx?_cons]
    · have hx' : ((i : Int) == (x.1 : Int)) = false := by simpa using (by omega : ¬ (i : Int) = x.1)
      have hx2 : (x.1 == i) = false := by simpa using hx
      simp only [Instr.sameNow, if_true, hx', mfind, List.findIdx?_cons, hx2, List.find?_cons]
      simp [Function.comp_def, Nat.add_comm, Nat.add_left_comm]

theorem findIdx_mfind (m : List (Nat × ByteArray)) (i : Nat) : (m.findIdx? fun x => x.1 == i).isSome = (mfind m i).isSome := by
  induction m with
  | nil => rfl
  | cons x m ih =>
    simp only [mfind, List.findIdx?_cons, List.find?_cons] at ih ⊢
    cases x.1 == i <;> simp_all

section
variable {P : Program} {t k e : TypeId} {w : World} {b : Nat} {m : List (Nat × ByteArray)}

theorem check_is (hk : P.underlying k = some (.int .i64)) (w : World) (q : Bool) (i : Nat) (hi : i ≤ 1048576) : (Instr.checkKey q 10000 k (.int .i64 i)).run P w = .ok () w :=
  (Maps.int_keyed hk).check w q (Maps.keyOf_int_mk hk (by
    have h1 : IntKind.i64.min ≤ 0 := by decide
    have h2 : 1048576 ≤ IntKind.i64.max := by decide
    simp [Lit.wf]; omega))

theorem findKey_is (hk : P.underlying k = some (.int .i64)) (w : World) {arr : Array MapEntry} (ha : entriesAre arr m) (i : Nat) :
    (Instr.findKey k (.int .i64 i) arr.toList).run P w = .ok ((m.findIdx? fun x => x.1 == i).map fun j => (j, .string ((mfind m i).getD ByteArray.empty))) w := by
  have hf := findNow_is (.int .i64) ⟨_, rfl⟩ arr.toList m i 0 ha
  simp only [Nat.zero_add] at hf
  simp [Instr.findKey, run_underlying hk, Result.andThen, hf]

theorem run_lookup_is (ht : P.underlying t = some (.map k e)) (hk : P.underlying k = some (.int .i64)) (h : MapAt w b m) (hz : (zeroValue e).run P w = .ok (.string ByteArray.empty) w) (i : Nat) (hi : i ≤ 1048576) :
    (Instr.lookup t (.map (some b)) (.int .i64 i) true).run P w = .ok (.tuple #[.string ((mfind m i).getD ByteArray.empty), .bool (mfind m i).isSome]) w := by
  obtain ⟨arr, clock, hb, ha⟩ := h
  have hs := findIdx_mfind m i
  cases hf : m.findIdx? fun x => x.1 == i
  · rw [hf] at hs
    have hn : mfind m i = none := by cases h : mfind m i <;> simp_all
    simp [Instr.lookup, run_underlying ht, MapKept.run_getObj_map hb, check_is hk w _ i hi, findKey_is hk w ha i, hf, Result.andThen, hz, hn]
  · rw [hf] at hs
    simp [Instr.lookup, run_underlying ht, MapKept.run_getObj_map hb, check_is hk w _ i hi, findKey_is hk w ha i, hf, Result.andThen, hz, ← hs]

/-- The list behind a store. -/
def mput (m : List (Nat × ByteArray)) (i : Nat) (s : ByteArray) : List (Nat × ByteArray) :=
  match m.findIdx? fun x => x.1 == i with
  | some j => m.modify j fun x => (x.1, s)
  | none => m ++ [(i, s)]
def mdel (m : List (Nat × ByteArray)) (i : Nat) : List (Nat × ByteArray) :=
  match m.findIdx? fun x => x.1 == i with
  | some j => m.eraseIdx j
  | none => m

theorem mfind_cons (x : Nat × ByteArray) (m : List (Nat × ByteArray)) (j : Nat) : mfind (x :: m) j = if x.1 = j then some x.2 else mfind m j := by
  unfold mfind
  rw [List.find?_cons]
  by_cases h : x.1 = j
  · simp [h]
  · have : (x.1 == j) = false := by simpa using h
    simp [this, h]
theorem mput_cons (x : Nat × ByteArray) (m : List (Nat × ByteArray)) (i : Nat) (s : ByteArray) : mput (x :: m) i s = if x.1 = i then (x.1, s) :: m else x :: mput m i s := by
  unfold mput
  rw [List.findIdx?_cons]
  by_cases h : x.1 = i
  · simp [h]
  · have : (x.1 == i) = false := by simpa using h
    simp only [this, h, if_false, Bool.false_eq_true]
    cases m.findIdx? fun x => x.1 == i <;> simp
theorem mdel_cons (x : Nat × ByteArray) (m : List (Nat × ByteArray)) (i : Nat) : mdel (x :: m) i = if x.1 = i then m else x :: mdel m i := by
  unfold mdel
  rw [List.findIdx?_cons]
  by_cases h : x.1 = i
  · simp [h]
  · have : (x.1 == i) = false := by simpa using h
    simp only [this, h, if_false, Bool.false_eq_true]
    cases m.findIdx? fun x => x.1 == i <;> simp
theorem mfind_mput (m : List (Nat × ByteArray)) (i j : Nat) (s : ByteArray) : mfind (mput m i s) j = if j = i then some s else mfind m j := by
  induction m with
  | nil =>
    simp only [mput, List.findIdx?_nil, List.nil_append, mfind_cons]
    by_cases h : j = i
    · simp [h]
    · simp [h, Ne.symm h]
  | cons x m ih =>
    rw [mput_cons]
    by_cases hx : x.1 = i
    · rw [if_pos hx, mfind_cons, mfind_cons]
      by_cases h : j = i
      · simp [h, hx]
      · have : ¬ x.1 = j := by omega
        simp [h, this]
    · rw [if_neg hx, mfind_cons, mfind_cons, ih]
      by_cases h : x.1 = j
      · have : ¬ j = i := by omega
        simp [h, this]
      · simp [h]
/-- Each key once. -/
def mkeys (m : List (Nat × ByteArray)) : Prop := (m.map (·.1)).Nodup
theorem mfind_none (m : List (Nat × ByteArray)) (j : Nat) : mfind m j = none ↔ j ∉ m.map (·.1) := by
  induction m with
  | nil => simp [mfind]
  | cons x m ih =>
    rw [mfind_cons]
    by_cases h : x.1 = j
    · simp [h]
    · simp [h, ih, Ne.symm h]
theorem mfind_mdel (m : List (Nat × ByteArray)) (hm : mkeys m) (i j : Nat) : mfind (mdel m i) j = if j = i then none else mfind m j := by
  induction m with
  | nil => simp [mdel, mfind]
  | cons x m ih =>
    have hm' : x.1 ∉ m.map (·.1) ∧ mkeys m := by simpa [mkeys] using hm
    rw [mdel_cons]
    by_cases hx : x.1 = i
    · rw [if_pos hx, mfind_cons]
      by_cases h : j = i
      · rw [if_pos h, mfind_none, h, ← hx]; exact hm'.1
      · have : ¬ x.1 = j := by omega
        simp [h, this]
    · rw [if_neg hx, mfind_cons, mfind_cons, ih hm'.2]
      by_cases h : x.1 = j
      · have : ¬ j = i := by omega
        simp [h, this]
      · simp [h]
theorem mput_keys (m : List (Nat × ByteArray)) (i : Nat) (s : ByteArray) : (mput m i s).map (·.1) = if i ∈ m.map (·.1) then m.map (·.1) else m.map (·.1) ++ [i] := by
  induction m with
  | nil => simp [mput]
  | cons x m ih =>
    rw [mput_cons]
    by_cases hx : x.1 = i
    · simp [hx]
    · rw [if_neg hx, List.map_cons, ih, List.map_cons]
      by_cases h : i ∈ m.map (·.1)
      · simp [h]
      · have : ¬ i = x.1 := Ne.symm hx
        simp [h, this]
theorem mkeys_mput {m : List (Nat × ByteArray)} (hm : mkeys m) (i : Nat) (s : ByteArray) : mkeys (mput m i s) := by
  unfold mkeys at hm ⊢
  rw [mput_keys]
  by_cases h : i ∈ m.map (·.1)
  · rw [if_pos h]; exact hm
  · rw [if_neg h, List.nodup_append]
    exact ⟨hm, by simp, fun a ha b hb => by rintro rfl; simp at hb; subst hb; exact h ha⟩
theorem mdel_sub (m : List (Nat × ByteArray)) (i : Nat) : (mdel m i).Sublist m := by
  unfold mdel
  cases m.findIdx? fun x => x.1 == i
  · exact List.Sublist.refl _
  · exact List.eraseIdx_sublist _ _
theorem mkeys_mdel {m : List (Nat × ByteArray)} (hm : mkeys m) (i : Nat) : mkeys (mdel m i) := List.Nodup.sublist ((mdel_sub m i).map _) hm

theorem entries_push {arr : Array MapEntry} (ha : entriesAre arr m) (i : Nat) (s : ByteArray) (c : Nat) : entriesAre (arr.push { key := .int .i64 i, val := .string s, born := c }) (m ++ [(i, s)]) := by
  unfold entriesAre at ha ⊢
  simp [ha, entryOf]
theorem entries_modify {arr : Array MapEntry} (ha : entriesAre arr m) (j i : Nat) (hj : ∃ x, m[j]? = some x ∧ x.1 = i) (s : ByteArray) : entriesAre (arr.modify j fun e => { e with key := .int .i64 i, val := .string s }) (m.modify j fun x => (x.1, s)) := by
  unfold entriesAre at ha ⊢
  apply List.ext_getElem?
  intro k
  have hk := congrArg (fun l => l[k]?) ha
  simp only [List.getElem?_map] at hk ⊢
  rw [Array.toList_modify, List.getElem?_modify, List.getElem?_modify]
  by_cases h : j = k
  · subst h
    obtain ⟨x, hx, rfl⟩ := hj
    simp only [hx, Option.map_some] at hk ⊢
    cases ha : arr.toList[j]?
    · rw [ha] at hk; simp at hk
    · simp [entryOf]
  · simpa [h] using hk
theorem entries_erase {arr : Array MapEntry} (ha : entriesAre arr m) (j : Nat) : entriesAre (arr.eraseIdxIfInBounds j) (m.eraseIdx j) := by
  unfold entriesAre at ha ⊢
  have : (arr.eraseIdxIfInBounds j).toList = arr.toList.eraseIdx j := by
    unfold Array.eraseIdxIfInBounds
    split
    · simp
    · rename_i h; rw [List.eraseIdx_of_length_le (by simpa using h)]
  rw [this]
  rw [map_eraseIdx, ha, map_eraseIdx]

theorem setBlock_mods (w : World) (b : Nat) (o : Obj) : Mods (· = b) w (setBlock w b o) :=
  ⟨rfl, rfl, rfl, by simp [setBlock], fun k _ hk => by simp only [setBlock]; rw [Array.getElem?_setIfInBounds_ne (Ne.symm hk)]⟩

theorem run_update_is (ht : P.underlying t = some (.map k e)) (hk : P.underlying k = some (.int .i64)) (h : MapAt w b m) (i : Nat) (hi : i ≤ 1048576) (s : ByteArray) :
    ∃ w', (Instr.mapUpdate t (.map (some b)) (.int .i64 i) (.string s)).run P w = .ok () w' ∧ MapAt w' b (mput m i s) ∧ Mods (· = b) w w' := by
  obtain ⟨arr, clock, hb, ha⟩ := h
  cases hf : m.findIdx? fun x => x.1 == i with
  | none =>
    refine ⟨setBlock w b (.map (arr.push { key := .int .i64 i, val := .string s, born := clock }) (clock + 1)), ?_, ⟨_, _, heap_setBlock_same hb _, by unfold mput; rw [hf]; exact entries_push ha i s clock⟩, setBlock_mods _ _ _⟩
    simp [Instr.mapUpdate, run_underlying ht, MapKept.run_getObj_map hb, check_is hk w _ i hi, findKey_is hk w ha i, hf, MapKept.run_setObj_map _ hb, Result.andThen, setBlock]
  | some j =>
    have hj : ∃ x, m[j]? = some x ∧ x.1 = i := by
      have := List.findIdx?_eq_some_iff_getElem.1 hf
      obtain ⟨h1, h2, _⟩ := this
      exact ⟨m[j], List.getElem?_eq_getElem h1, by simpa using h2⟩
    have hkey : (arr[j]?.map (·.key)).getD (.int .i64 i) = .int .i64 i := by
      obtain ⟨x, hx, rfl⟩ := hj
      have hk := congrArg (fun l => l[j]?) ha
      simp only [List.getElem?_map, hx, Option.map_some, Array.getElem?_toList] at hk
      cases hq : arr[j]?
      · simp
      · rw [hq] at hk; simp [entryOf] at hk; simp [hk]
    refine ⟨setBlock w b (.map (arr.modify j fun e => { e with key := .int .i64 i, val := .string s }) clock), ?_, ⟨_, _, heap_setBlock_same hb _, by unfold mput; rw [hf]; exact entries_modify ha j i hj s⟩, setBlock_mods _ _ _⟩
    have hst : ∀ w : World, (Instr.keyThatStays (.int .i64 i) (.int .i64 i)).run P w = .ok (.int .i64 i) w := fun w => by simp [Instr.keyThatStays, Instr.sameBits]
    simp [Instr.mapUpdate, run_underlying ht, MapKept.run_getObj_map hb, check_is hk w _ i hi, findKey_is hk w ha i, hf, hkey, hst, MapKept.run_setObj_map _ hb, Result.andThen, setBlock]
    done

theorem run_delete_is (ht : P.underlying t = some (.map k e)) (hk : P.underlying k = some (.int .i64)) (h : MapAt w b m) (i : Nat) (hi : i ≤ 1048576) (ty : TypeId) :
    ∃ w', (Builtin.delete_ #[t, k] ty #[.map (some b), .int .i64 i]).run P w = .ok (.tuple #[]) w' ∧ MapAt w' b (mdel m i) ∧ Mods (· = b) w w' := by
  obtain ⟨arr, clock, hb, ha⟩ := h
  cases hf : m.findIdx? fun x => x.1 == i with
  | none =>
    refine ⟨setBlock w b (.map arr clock), ?_, ⟨_, _, heap_setBlock_same hb _, by unfold mdel; rw [hf]; exact ha⟩, setBlock_mods _ _ _⟩
    simp [Builtin.delete_, run_underlying ht, MapKept.run_getObj_map hb, check_is hk w _ i hi, findKey_is hk w ha i, hf, MapKept.run_setObj_map _ hb, Result.andThen, setBlock]
  | some j =>
    refine ⟨setBlock w b (.map (arr.eraseIdxIfInBounds j) clock), ?_, ⟨_, _, heap_setBlock_same hb _, by unfold mdel; rw [hf]; exact entries_erase ha j⟩, setBlock_mods _ _ _⟩
    simp [Builtin.delete_, run_underlying ht, MapKept.run_getObj_map hb, check_is hk w _ i hi, findKey_is hk w ha i, hf, MapKept.run_setObj_map _ hb, Result.andThen, setBlock]
end
end Go.Proofs.YtabngdpijbpgeaaGreat
