/- Rows in memory: slicing, making, copying, appending, for elements of any size. -/
import Derived.Test.YtabngdpijbpgeaaGreatBase
import Derived.Laws.CopyOwn
import Derived.Laws.AppendOwnNone
set_option linter.unusedVariables false
set_option linter.unusedSimpArgs false
namespace Go.Proofs.YtabngdpijbpgeaaGreat
open Go Go.RowKit

/-- A slice value (a, n, cap) of elements of sz cells each, whose cells are cs. -/
def Row (w : World) (ty sz : Nat) (a : Option Addr) (n cap : Nat) (cs : List Value) : Prop :=
  cs.length = n * sz ∧ n ≤ cap ∧ cap ≤ maxLen ∧ (a = none → cap = 0) ∧ (∀ ad, a = some ad → ad.spot = none) ∧ Sl w ty a cs

theorem Row.sl {w : World} {ty sz : Nat} {a : Option Addr} {n cap : Nat} {cs : List Value} (h : Row w ty sz a n cap cs) : Sl w ty a cs := h.2.2.2.2.2
theorem Row.below {w w' : World} {ty sz : Nat} {a : Option Addr} {n cap : Nat} {cs : List Value} (h : Row w ty sz a n cap cs) (hb : Below w.heap.size w w') : Row w' ty sz a n cap cs :=
  ⟨h.1, h.2.1, h.2.2.1, h.2.2.2.1, h.2.2.2.2.1, h.sl.below hb⟩
theorem Row.nil (w : World) (ty sz : Nat) : Row w ty sz none 0 0 [] := ⟨by simp, Nat.le_refl _, by unfold maxLen; omega, fun _ => rfl, by simp, .inl rfl⟩
theorem addr_add (b off n : Nat) : (⟨b, off, none⟩ : Addr).add n = ⟨b, off + n, none⟩ := by unfold Addr.add; split <;> simp_all

theorem Sl.drop {w : World} {ty : Nat} {a : Option Addr} {cs : List Value} (h : Sl w ty a cs) (k : Nat) : Sl w ty (a.map (·.add k)) (cs.drop k) := by
  rcases h with h | ⟨b, off, c, fz, ha, hh, hc⟩
  · exact .inl (by simp [h])
  · refine .inr ⟨b, off + k, c, fz, by rw [ha]; simp [addr_add], hh, fun i v hv => ?_⟩
    rw [List.getElem?_drop] at hv
    rw [Nat.add_assoc]; exact hc _ _ hv
theorem Sl.take {w : World} {ty : Nat} {a : Option Addr} {cs : List Value} (h : Sl w ty a cs) (k : Nat) : Sl w ty a (cs.take k) := by
  rcases h with h | ⟨b, off, c, fz, ha, hh, hc⟩
  · exact .inl (by simp [h])
  · refine .inr ⟨b, off, c, fz, ha, hh, fun i v hv => ?_⟩
    rw [List.getElem?_take] at hv
    split at hv
    · exact hc _ _ hv
    · simp at hv
theorem Sl.addr {w : World} {ty : Nat} {a : Option Addr} {cs : List Value} (h : Sl w ty a cs) {i : Nat} {v : Value} (hv : cs[i]? = some v) (ad : Addr) (ha : a = some ad) : w.cell? (ad.add i) = some v := by
  obtain ⟨b, off, ha', _, hc⟩ := h.cell hv
  rw [ha] at ha'; injection ha' with ha'; subst ha'
  rw [addr_add]; exact hc _ _ hv

/-- xs[l:] -/
theorem Row.from {w : World} {ty sz : Nat} {a : Option Addr} {n cap : Nat} {cs : List Value} (h : Row w ty sz a n cap cs) {l : Nat} (hl : l ≤ n) :
    Row w ty sz (if cap = l then a else a.map (·.add (l * sz))) (n - l) (cap - l) (cs.drop (l * sz)) := by
  obtain ⟨h1, h2, h3, h4, h5, h6⟩ := h
  refine ⟨by rw [List.length_drop, h1, Nat.mul_sub_right_distrib], by omega, by unfold maxLen at *; omega, ?_, ?_, ?_⟩
  · intro ha; split at ha
    · omega
    · simp at ha; have := h4 ha; omega
  · intro ad ha
    split at ha
    · exact h5 ad ha
    · simp only [Option.map_eq_some_iff] at ha
      obtain ⟨x, hx, rfl⟩ := ha
      have := h5 x hx
      unfold Addr.add; split <;> simp [this]
  · split
    · have : cs.drop (l * sz) = [] := by
        apply List.drop_eq_nil_of_le
        rw [h1]
        have : n = l := by omega
        subst this; exact Nat.le_refl _
      exact .inl this
    · exact h6.drop _
/-- xs[:h] -/
theorem Row.to {w : World} {ty sz : Nat} {a : Option Addr} {n cap : Nat} {cs : List Value} (h : Row w ty sz a n cap cs) {k : Nat} (hk : k ≤ n) :
    Row w ty sz a k cap (cs.take (k * sz)) := by
  obtain ⟨h1, h2, h3, h4, h5, h6⟩ := h
  refine ⟨?_, by omega, h3, h4, h5, h6.take _⟩
  rw [List.length_take, h1, Nat.min_eq_left (Nat.mul_le_mul_right _ hk)]

/-- What the call owns reads as a row. -/
theorem ownsRow_row {w : World} {base ty sz : Nat} {v : Value} {n : Nat} {xs : List Value} (h : w.ownsRow base ty sz v n xs) :
    ∃ a cap, v = .slice a n cap ∧ Row w ty sz a n cap xs := by
  obtain ⟨hl, h⟩ := h
  rcases h with ⟨rfl, rfl⟩ | ⟨g, cap, cur, rfl, hb, hh, h1, h2, h3, h4⟩
  · refine ⟨none, 0, rfl, by simpa using hl, Nat.le_refl _, by unfold maxLen; omega, fun _ => rfl, by simp, .inl ?_⟩
    exact List.eq_nil_of_length_eq_zero (by simpa using hl)
  · refine ⟨_, cap, rfl, hl, h1, h2, by simp, by simp, .inr ⟨g, 0, cur, (0, 0), rfl, hh, fun i v hv => ?_⟩⟩
    rw [← h4, List.getElem?_take] at hv
    split at hv
    · simpa using hv
    · simp at hv

/-- A row of the call's own begins in a block that it has made. -/
def Fresh (n : Nat) (a : Option Addr) : Prop := ∀ ad, a = some ad → n ≤ ad.block
theorem ownsRow_fresh {w : World} {base ty sz : Nat} {v : Value} {n : Nat} {xs : List Value} (h : w.ownsRow base ty sz v n xs) :
    ∃ a cap, v = .slice a n cap ∧ Row w ty sz a n cap xs ∧ Fresh base a := by
  obtain ⟨a, cap, rfl, hr⟩ := ownsRow_row h
  refine ⟨a, cap, rfl, hr, fun ad ha => ?_⟩
  subst ha
  exact (h.lt ad.block rfl).1
theorem Fresh.mono {n m : Nat} {a : Option Addr} (h : Fresh n a) (hm : m ≤ n) : Fresh m a := fun ad ha => Nat.le_trans hm (h ad ha)
/-- A store into another block leaves a row alone. -/
theorem Row.set {w : World} {ty sz : Nat} {a : Option Addr} {n cap : Nat} {cs : List Value} (h : Row w ty sz a n cap cs) {g o : Nat} {v : Value} (hg : ∀ ad, a = some ad → ad.block ≠ g) :
    Row (w.setCell ⟨g, o, none⟩ v) ty sz a n cap cs := by
  obtain ⟨h1, h2, h3, h4, h5, h6⟩ := h
  refine ⟨h1, h2, h3, h4, h5, ?_⟩
  rcases h6 with h6 | ⟨b, off, c, fz, ha, hh, hc⟩
  · exact .inl h6
  · refine .inr ⟨b, off, c, fz, ha, ?_, hc⟩
    rw [Below.heap_setCell _ _ _ _ (hg _ ha)]; exact hh

section
variable {P : Program} {ops : Array Oper} {rest : List Oper} {o : Oper} {act : Act} {Q : Exit → Act → World → Prop}

/-- append(s, x...) where s is the call's own (or nil), x any row. -/
theorem wpList_append_row (w : World) (hgd : o.guard = none) (s x : Operand) (t : TypeId)
    (hop : o.op = .call { callee := .builtin .append, args := #[s, x], argTypes := #[t, t] })
    (base : Nat) (ty : TypeId) (i : TypeInfo) (z : Value) (size bytes : Nat) (ht : P.underlying t = some (.slice ty)) (hi : P.info? ty = some i) (hz : i.zero = some z)
    (hsize : i.size = size) (hby : i.bytes = bytes) (hzs : z.cells.size = size) (hsz : 0 < size)
    (v : Value) (n : Nat) (xs : List Value) (hs : act.eval s = v) (hown : w.ownsRow base ty size v n xs)
    (ax : Option Addr) (m c ty' : Nat) (news : List Value) (hx : act.eval x = .slice ax m c) (hrow : Row w ty' size ax m c news) (h1 : ∀ u ∈ news, u.oneCell' = true)
    (h63 : n + m ≤ maxLen) (hbytes : (n + m) * bytes ≤ 140737488355328) (hbase : base ≤ w.heap.size)
    (h : ∀ v' w', w'.ownsRow base ty size v' (n + m) (xs ++ news) → w.grownBy w' v.ownBlock → wpList P ops Q rest (act.put o.dst v') w') : wpList P ops Q (o :: rest) act w := by
  cases ax with
  | some ad =>
    exact wpList_append_own w hgd s x t hop base ty i z size bytes ht hi hz hsize hby hzs hsz v n xs hs hown ad m c news hx hrow.1
      (fun j u hu => hrow.sl.addr hu ad rfl) h1 h63 hbytes hbase (fun v' w' h2 h3 _ => h v' w' h2 h3)
  | none =>
    have hc := hrow.2.2.2.1 rfl
    have hm : m = 0 := by have := hrow.2.1; omega
    subst hc; subst hm
    have hn : news = [] := List.eq_nil_of_length_eq_zero (by simpa using hrow.1)
    subst hn
    exact wpList_append_own_none hgd s x t hop base ty i size ht hi v n xs hs hown hx
      (h v w (by simpa using hown) ⟨rfl, rfl, rfl, Nat.le_refl _, fun _ _ _ => rfl⟩)

/-- copy(dst, src): into a block of the call's own, elements of any size. -/
theorem run_copy_rowS (w : World) (dT sT ty elem : TypeId) (size : Nat) (g off dLen dCap : Nat) (a : Option Addr) (sLen sCap : Nat) (cur : Array Value) (t ty' : TypeId) (cs : List Value)
    (hu : P.underlying dT = some (.slice elem)) (hs : (P.info? elem).map (·.size) = some size)
    (hg : w.heap[g]? = some (.cells cur t (0, 0))) (hrow : Row w ty' size a sLen sCap cs)
    (hfit : off + Nat.min sLen dLen * size ≤ cur.size) (h1 : ∀ v ∈ cs, v.oneCell' = true) :
    (Builtin.copy_ #[dT, sT] ty #[.slice (some ⟨g, off, none⟩) dLen dCap, .slice a sLen sCap]).run P w =
      .ok (goInt (Nat.min sLen dLen)) (w.setRow g (splice cur.toList off (cs.take (Nat.min sLen dLen * size))).toArray) := by
  have hlen : (cs.take (Nat.min sLen dLen * size)).length = Nat.min sLen dLen * size := by
    rw [List.length_take, hrow.1, Nat.min_eq_left (Nat.mul_le_mul_right _ (Nat.min_le_left _ _))]
  have hst := run_storeCells_at P g off t (cs.take (Nat.min sLen dLen * size)) 0 cur w hg (by rw [hlen]; simpa using hfit) (fun v hv => h1 v (List.mem_of_mem_take hv))
  simp only [Nat.add_zero] at hst
  cases hq : P.info? elem with
  | none => simp [hq] at hs
  | some i =>
    have hi : i.size = size := by simpa [hq] using hs
    cases a with
    | none =>
      have hc := hrow.2.2.2.1 rfl
      have hm : sLen = 0 := by have := hrow.2.1; omega
      subst hm
      simp [Builtin.copy_, run_underlying hu, Builtin.lenOf, Builtin.firstCells, sizeOf, typeInfo, hq, splice, storeCells, setRow_self w g cur t (0, 0) hg]
    | some ad =>
      have hl : (loadCells ad (Nat.min sLen dLen * i.size)).run P w = .ok (cs.take (Nat.min sLen dLen * size)).toArray w := by
        have := run_loadCells_list (P := P) w ad (cs.take (Nat.min sLen dLen * size)) (fun j v hv => by
          rw [List.getElem?_take] at hv
          split at hv
          · exact hrow.sl.addr hv ad rfl
          · simp at hv)
        rw [hlen] at this
        rw [hi]
        exact this
      rw [hi] at hl
      simp [Builtin.copy_, run_underlying hu, Builtin.lenOf, Builtin.firstCells, sizeOf, typeInfo, hq, hi, hl, hst, splice]

theorem grownBy_setRow (w : World) (g : Nat) (cs : Array Value) : w.grownBy (w.setRow g cs) (some g) :=
  ⟨rfl, rfl, rfl, by simp [World.setRow], fun k hk hne => setRow_other w g k cs (fun e => hne (by rw [e]))⟩

theorem wpList_copy_row (w : World) (hgd : o.guard = none) (d s : Operand) (dT sT : TypeId)
    (hop : o.op = .call { callee := .builtin .copy, args := #[d, s], argTypes := #[dT, sT] }) (elem : TypeId) (size : Nat)
    (hu : P.underlying dT = some (.slice elem)) (hsz : (P.info? elem).map (·.size) = some size)
    (g off dLen dCap : Nat) (a : Option Addr) (sLen sCap : Nat) (hd : act.eval d = .slice (some ⟨g, off, none⟩) dLen dCap) (hs : act.eval s = .slice a sLen sCap)
    (cur : Array Value) (t ty' : TypeId) (hg : w.heap[g]? = some (.cells cur t (0, 0))) (cs : List Value) (hrow : Row w ty' size a sLen sCap cs)
    (hfit : off + Nat.min sLen dLen * size ≤ cur.size) (h1 : ∀ v ∈ cs, v.oneCell' = true)
    (h : ∀ w', w'.heap[g]? = some (.cells (splice cur.toList off (cs.take (Nat.min sLen dLen * size))).toArray t (0, 0)) → w.grownBy w' (some g) → wpList P ops Q rest (act.put o.dst (goInt (Nat.min sLen dLen))) w') :
    wpList P ops Q (o :: rest) act w := by
  refine wpList_plain hgd fun K hK => ?_
  have hrun := run_copy_rowS (P := P) w dT sT o.type elem size g off dLen dCap a sLen sCap cur t ty' cs hu hsz hg hrow hfit h1
  unfold Oper.wp
  simp only [execOp, hop, resolve, invoke, builtin]
  simp [hd, hs, hrun, Result.andThen]
  exact hK _ _ (h _ (setRow_heap w g cur _ t _ hg) (grownBy_setRow w g _))
end
theorem pairCells_oneCell (ps : List Pair) : ∀ v ∈ pairCells ps, v.oneCell' = true := by
  induction ps with
  | nil => simp [pairCells]
  | cons p r ih => intro v hv; simp only [pairCells, List.mem_cons] at hv; rcases hv with rfl | rfl | hv <;> first | rfl | exact ih v hv
theorem pairCells_take (ps : List Pair) (k : Nat) : (pairCells ps).take (k * 2) = pairCells (ps.take k) := by
  induction ps generalizing k with
  | nil => simp [pairCells]
  | cons p r ih =>
    cases k with
    | zero => simp [pairCells]
    | succ k => rw [show (k + 1) * 2 = k * 2 + 1 + 1 from by omega]; simp [pairCells, ih]
theorem pairCells_drop (ps : List Pair) (k : Nat) : (pairCells ps).drop (k * 2) = pairCells (ps.drop k) := by
  induction ps generalizing k with
  | nil => simp [pairCells]
  | cons p r ih =>
    cases k with
    | zero => simp
    | succ k => rw [show (k + 1) * 2 = k * 2 + 1 + 1 from by omega]; simp [pairCells, ih]
theorem splice_take {α : Type} (L X : List α) (k : Nat) (h : X.length = k) : (splice L 0 X).take k = X := by
  subst h; simp [splice]
section
variable {P : Program}
theorem run_sizeOf {ty sz : Nat} (hs : (P.info? ty).map (·.size) = some sz) (w : World) : (sizeOf ty).run P w = .ok sz w := by
  cases hq : P.info? ty with
  | none => simp [hq] at hs
  | some i => simp [hq] at hs; simp [sizeOf, typeInfo, hq, hs]
/-- xs[l:], run: in whatever world. -/
theorem Row.run_from {w : World} {ty sz : Nat} {a : Option Addr} {n cap : Nat} {cs : List Value} (h : Row w ty sz a n cap cs) {t : Nat} (ht : P.underlying t = some (.slice ty))
    (hs : (P.info? ty).map (·.size) = some sz) {l : Nat} (hl : l ≤ n) :
    ∃ a' cap', (∀ (w' : World) (k : IntKind), (Instr.slice t (.slice a n cap) (some (.int k (l : Int))) none none).run P w' = .ok (.slice a' (n - l) cap') w') ∧ Row w ty sz a' (n - l) cap' (cs.drop (l * sz)) := by
  refine ⟨_, _, fun w' k => ?_, h.from hl⟩
  have hc := h.2.1
  simp only [Instr.slice, Sem.run_bind, run_underlying ht, Result.andThen_ok]
  simp [Instr.sliceBounds, Instr.sliceBound, asIntOf, run_sizeOf hs, hl, (by omega : (l : Int) ≤ n)]
/-- xs[:h], run. -/
theorem Row.run_to {w : World} {ty sz : Nat} {a : Option Addr} {n cap : Nat} {cs : List Value} (h : Row w ty sz a n cap cs) {t : Nat} (ht : P.underlying t = some (.slice ty))
    (hs : (P.info? ty).map (·.size) = some sz) {l : Nat} (hl : l ≤ n) :
    (∀ (w' : World) (k : IntKind), (Instr.slice t (.slice a n cap) none (some (.int k (l : Int))) none).run P w' = .ok (.slice a l cap) w') ∧ Row w ty sz a l cap (cs.take (l * sz)) := by
  refine ⟨fun w' k => ?_, h.to hl⟩
  have hc := h.2.1
  simp only [Instr.slice, Sem.run_bind, run_underlying ht, Result.andThen_ok]
  simp [Instr.sliceBounds, Instr.sliceBound, asIntOf, run_sizeOf hs]
  rw [if_pos (by omega)]
  cases a with
  | none => simp
  | some ad => simp [Addr.add]
end

/-! ### boxes -/
theorem boxR {W : World} {g ty : Nat} {cs : Array Value} {fz : Nat × Nat} (h : W.heap[g]? = some (.cells cs ty fz)) : ∀ (w' : World) (o : Nat), Below W.heap.size W w' → w'.cell? ⟨g, o, none⟩ = cs[o]? :=
  fun w' o hb => (hb.cell (p := ⟨g, o, none⟩) (heap_lt h)).trans (cell_of_heap h)
theorem frozen_of_heap {w : World} {b o : Nat} {c : Array Value} {ty : Nat} (h : w.heap[b]? = some (.cells c ty (0, 0))) : w.frozen? ⟨b, o, none⟩ = false := by
  simp [World.frozen?, h]
theorem frzR {W : World} {g ty : Nat} {cs : Array Value} (h : W.heap[g]? = some (.cells cs ty (0, 0))) : ∀ (w' : World) (o : Nat), Below W.heap.size W w' → w'.frozen? ⟨g, o, none⟩ = false :=
  fun w' o hb => (hb.frozen (p := ⟨g, o, none⟩) (heap_lt h)).trans (frozen_of_heap h)
theorem heapR {W w' : World} {g : Nat} {o : Obj} (h : W.heap[g]? = some o) (hb : Below W.heap.size W w') : w'.heap[g]? = some o := (hb.block g (heap_lt h)).trans h
theorem heap_setCell {w : World} {g i ty : Nat} {cs : Array Value} {fz : Nat × Nat} (h : w.heap[g]? = some (.cells cs ty fz)) (v : Value) :
    (w.setCell ⟨g, i, none⟩ v).heap[g]? = some (.cells (cs.setIfInBounds i v) ty fz) := by
  simp [World.setCell, Array.getElem?_modify, h]
theorem size_setCell (w : World) (a : Addr) (v : Value) : (w.setCell a v).heap.size = w.heap.size := by simp [World.setCell]

theorem alloc_old {w : World} {o x : Obj} {k : Nat} (h : w.heap[k]? = some x) : (w.alloc o).heap[k]? = some x := by
  rw [Below.heap_alloc w o k (heap_lt h)]; exact h
theorem boxes1 {w W : World} {o1 : Obj} (hW : w.alloc o1 = W) : Below w.heap.size w W ∧ w.heap.size < W.heap.size ∧ W.heap[w.heap.size]? = some o1 := by
  subst hW
  exact ⟨(Below.refl _ _).alloc (Nat.le_refl _) _, by simp, heap_alloc_new w _⟩
theorem boxes2 {w W : World} {o1 o2 : Obj} (hW : (w.alloc o1).alloc o2 = W) :
    Below w.heap.size w W ∧ w.heap.size + 1 < W.heap.size ∧ W.heap[w.heap.size]? = some o1 ∧ W.heap[w.heap.size + 1]? = some o2 := by
  subst hW
  refine ⟨((Below.refl _ _).alloc (Nat.le_refl _) _).alloc (by simp) _, by simp, alloc_old (heap_alloc_new w _), ?_⟩
  have := heap_alloc_new (w.alloc o1) o2
  simpa using this
theorem boxes3 {w W : World} {o1 o2 o3 : Obj} (hW : ((w.alloc o1).alloc o2).alloc o3 = W) :
    Below w.heap.size w W ∧ w.heap.size + 2 < W.heap.size ∧ W.heap[w.heap.size]? = some o1 ∧ W.heap[w.heap.size + 1]? = some o2 ∧ W.heap[w.heap.size + 2]? = some o3 := by
  subst hW
  refine ⟨(((Below.refl _ _).alloc (Nat.le_refl _) _).alloc (by simp) _).alloc (by simp; omega) _, by simp, alloc_old (alloc_old (heap_alloc_new w _)), alloc_old ?_, ?_⟩
  · have := heap_alloc_new (w.alloc o1) o2
    simpa using this
  · have := heap_alloc_new ((w.alloc o1).alloc o2) o3
    simpa using this

/-- A row that is written out. -/
theorem rowLit (w : World) (ty sz n : Nat) (cs : Array Value) (hn : cs.size = n * sz) (hm : n ≤ maxLen) : Row (w.alloc (.cells cs ty)) ty sz (some ⟨w.heap.size, 0, none⟩) n n cs.toList :=
  ⟨by simpa using hn, Nat.le_refl _, hm, by simp, by simp, .inr ⟨w.heap.size, 0, cs, (0, 0), rfl, heap_alloc_new w _, fun i v hv => by simpa using hv⟩⟩
/-- .. or into a block of elements of another type. -/
theorem Row.setT {w : World} {ty sz : Nat} {a : Option Addr} {n cap : Nat} {cs : List Value} (h : Row w ty sz a n cap cs) {g ty' : Nat} {cs' : Array Value} {fz : Nat × Nat}
    (hg : w.heap[g]? = some (.cells cs' ty' fz)) (hne : ty ≠ ty') (o : Nat) (v : Value) : Row (w.setCell ⟨g, o, none⟩ v) ty sz a n cap cs := by
  obtain ⟨h1, h2, h3, h4, h5, h6⟩ := h
  refine ⟨h1, h2, h3, h4, h5, ?_⟩
  rcases h6 with h6 | ⟨b, off, c, fz', ha, hh, hc⟩
  · exact .inl h6
  · refine .inr ⟨b, off, c, fz', ha, ?_, hc⟩
    have : b ≠ g := by
      rintro rfl
      rw [hg] at hh; injection hh with hh; injection hh with _ e; exact hne e.symm
    rw [Below.heap_setCell _ _ _ _ this]; exact hh
theorem Row.set3 {w : World} {ty sz : Nat} {a : Option Addr} {n cap : Nat} {cs : List Value} (h : Row w ty sz a n cap cs) {g ty' : Nat} {cs' : Array Value} {fz : Nat × Nat}
    (hg : w.heap[g]? = some (.cells cs' ty' fz)) (hne : ty ≠ ty') (o1 o2 o3 : Nat) (v1 v2 v3 : Value) :
    Row (((w.setCell ⟨g, o1, none⟩ v1).setCell ⟨g, o2, none⟩ v2).setCell ⟨g, o3, none⟩ v3) ty sz a n cap cs :=
  ((h.setT hg hne _ _).setT (heap_setCell hg _) hne _ _).setT (heap_setCell (heap_setCell hg _) _) hne _ _
theorem belowSet {W w1 : World} {B g o : Nat} {v : Value} (h : Below B W w1) (hg : B ≤ g) : Below B W (w1.setCell ⟨g, o, none⟩ v) := h.setCell hg v
theorem heap_setCell_ne {w : World} {g i k : Nat} {v : Value} (h : k ≠ g) : (w.setCell ⟨g, i, none⟩ v).heap[k]? = w.heap[k]? := Below.heap_setCell _ _ _ _ h

/-- A leaf's value. -/
def LeafV (w : World) (v : Value) (l : LeafD) : Prop :=
  ∃ a cap, v = .agg #[.slice a l.pairs.length cap, .string l.high, .int .i64 l.next] ∧ Row w 41 2 a l.pairs.length cap (pairCells l.pairs)
theorem LeafV.below {w w' : World} {v : Value} {l : LeafD} (h : LeafV w v l) (hb : Below w.heap.size w w') : LeafV w' v l := by
  obtain ⟨a, cap, h1, h2⟩ := h
  exact ⟨a, cap, h1, h2.below hb⟩
/-- .. whose pairs are new. -/
def LeafN (B : Nat) (w : World) (v : Value) (l : LeafD) : Prop :=
  ∃ a cap, v = .agg #[.slice a l.pairs.length cap, .string l.high, .int .i64 l.next] ∧ Row w 41 2 a l.pairs.length cap (pairCells l.pairs) ∧ Fresh B a
theorem LeafN.leaf {B : Nat} {w : World} {v : Value} {l : LeafD} (h : LeafN B w v l) : LeafV w v l := by
  obtain ⟨a, cap, h1, h2, _⟩ := h
  exact ⟨a, cap, h1, h2⟩
theorem LeafN.below {B : Nat} {w w' : World} {v : Value} {l : LeafD} (h : LeafN B w v l) (hb : Below w.heap.size w w') : LeafN B w' v l := by
  obtain ⟨a, cap, h1, h2, h3⟩ := h
  exact ⟨a, cap, h1, h2.below hb, h3⟩
def zeroLeaf : LeafD := ⟨[], emptyS, 0⟩
theorem LeafV.zero (w : World) : LeafV w (.agg #[.slice none 0 0, .string emptyS, .int .i64 0]) zeroLeaf := ⟨none, 0, rfl, Row.nil _ _ _⟩
end Go.Proofs.YtabngdpijbpgeaaGreat
