/- A law's last step: true is told, and what was there is as it was. -/
import Derived.Test.YtabngdpijbpgeaaGreatRows
import Derived.ProofKit
import Derived.Below
import Derived.ChangeSame
set_option linter.unusedVariables false
namespace Go.Proofs.YtabngdpijbpgeaaGreat
open Go Go.ChangeShapes Go.WideShapes Go.ChangeAt Go.RowKit

theorem Tryz.own : ownKnob Tryz.prog.godebug = none := by kernel_rfl
theorem Tryz.laidOut : laidOutB Tryz.prog = true := by kernel_rfl

/-- What came in reads as it did, in whatever world that leaves all that was there alone. -/
theorem law_ends {H : Type} {enc : TypeId × Value → H} {P : Program} {f : Func} {s : ChangeSpec} {apart fresh handsOn again : Bool} {W W' : World} {args : Array Value} {v : Value} {ds gs : List (DataW H)} {before pa pv : List MemPlace}
    (hW : DataW.Whole enc P f.params.toList s.vars apart W args.toList ds gs before)
    (hres : ∀ (b : Nat) (sp : Nat → Bool) (hd : Bool), DataW.TrodAll enc P W' b sp hd f.resultTypes.toList (v.resultList f.resultTypes.size) (s.fn H (ds ++ gs)).results [])
    (hargs : ∀ sp : Nat → Bool, (∀ p ∈ before, sp p.block = true) → DataW.TrodAll enc P W' 0 sp true f.params.toList args.toList (s.fn H (ds ++ gs)).args pa)
    (hvars : ∀ sp : Nat → Bool, (∀ p ∈ before, sp p.block = true) → DataW.TrodVars enc P W' sp s.vars (s.fn H (ds ++ gs)).vars pv)
    (hps : before = pa ++ pv) (hb : Below W.heap.size W W')
    (hok : ∀ (j : Nat) (t : TypeId) (r : Value), f.resultTypes[j]? = some t → (v.resultList f.resultTypes.size)[j]? = some r → Value.okWide P W' .any 0 t r) :
    s.post enc P f apart fresh handsOn again W args v W' := by
  have hlt : ∀ p ∈ before, p.block < W.heap.size := fun p hp => hW.lt p hp
  have hold : ∀ p ∈ before, (fun b => decide (b < W.heap.size)) p.block = true := fun p hp => by simpa using hlt p hp
  obtain ⟨_, _, _, _, _, hz, hn⟩ := id hW
  subst hps
  have hkept : W.keptBut W' (fun p => p ∈ pa ++ pv ∧ (p ∈ ([] : List MemPlace) ∨ p ∈ pa ∨ p ∈ pv)) :=
    World.keptBut_mono (fun p (hp : p ∈ pa ++ pv) => ⟨hp, .inr (List.mem_append.1 hp)⟩) (hb.frame (· ∈ pa ++ pv))
  refine ⟨ds, gs, pa ++ pv, [], pa, pv, hW, hres _ _ _, hargs _ hold, hvars _ hold, hkept, fun _ => ⟨hok, (s.fn H (ds ++ gs)).results ++ (s.fn H (ds ++ gs)).args, (s.fn H (ds ++ gs)).vars, pa ++ pv, ?_, fun p hp _ => hp⟩⟩
  refine ⟨[] ++ pa, pv, trodAll_append (hargs _ (fun _ _ => rfl)) (hres _ _ _), hvars _ (fun _ _ => rfl), rfl, fun b off hp => ?_, hn⟩
  rw [hb.frozen (hlt _ hp)]; exact hz b off hp
end Go.Proofs.YtabngdpijbpgeaaGreat
