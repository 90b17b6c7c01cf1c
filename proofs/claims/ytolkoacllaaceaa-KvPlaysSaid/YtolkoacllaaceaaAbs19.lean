/-
  THE SEAT's PROGRAM: what it owes the abstract evaluator; the room a call leaves.
-/
import Derived.Test.YtolkoacllaaceaaAbs18
import Derived.Test.YtolkoacllaaceaaRows
import Derived.ProofKit
namespace Go.Proofs.Ytolkoacllaaceaa
open Go.ChangeShapes Go.WideShapes Go.ChangeAt Go.RowKit Go.Abs

theorem Try.own : ownKnob Try.prog.godebug = none := by kernel_rfl
theorem Try.laidOut : laidOutB Try.prog = true := by kernel_rfl
theorem Try.mixed : Try.prog.follows .mixedOrders = true := by kernel_rfl
theorem Try.names : (Try.prog.funcs.all fun f => f.name != "runtime.NumGoroutine") = true := by kernel_rfl
theorem Try.progOk : ProgOk Try.prog := progOk_of Try.codeOk Try.mixed Try.names
theorem knownOk_none (P : Program) : KnownOk P X0 := fun f g h => by cases h

section
variable {H : Type} {enc : TypeId × Value → H} {P : Program}
/-- A row's last step, where of the new world is known that all that was there is as it was. -/
theorem post_below {f : Func} {s : ChangeSpec} {apart fresh handsOn again : Bool} {W W' : World} {args : Array Value} {v : Value} {ds gs : List (DataW H)} {before pa pv : List MemPlace}
    (hW : DataW.Whole enc P f.params.toList s.vars apart W args.toList ds gs before)
    (hres : ∀ (b : Nat) (sp : Nat → Bool) (hd : Bool), DataW.TrodAll enc P W' b sp hd f.resultTypes.toList (v.resultList f.resultTypes.size) (s.fn H (ds ++ gs)).results [])
    (hargs : ∀ sp : Nat → Bool, (∀ p ∈ before, sp p.block = true) → DataW.TrodAll enc P W' 0 sp true f.params.toList args.toList (s.fn H (ds ++ gs)).args pa)
    (hvars : ∀ sp : Nat → Bool, (∀ p ∈ before, sp p.block = true) → DataW.TrodVars enc P W' sp s.vars (s.fn H (ds ++ gs)).vars pv)
    (hps : before = pa ++ pv) (hb : Below W.heap.size W W')
    (hok : ∀ (j : Nat) (t : TypeId) (r : Value), f.resultTypes[j]? = some t → (v.resultList f.resultTypes.size)[j]? = some r → Value.okWide P W' .any 0 t r) :
    s.post enc P f apart fresh handsOn again W args v W' := by
  have hlt : ∀ p ∈ before, p.block < W.heap.size := fun p hp => hW.lt p hp
  have hold : ∀ p ∈ before, (fun b => decide (b < W.heap.size)) p.block = true := fun p hp => by simpa using hlt p hp
  refine ⟨ds, gs, before, [], pa, pv, hW, hres _ _ _, hargs _ hold, hvars _ hold, World.keptBut_mono (fun p hp => ⟨hp, ?_⟩) (hb.frame (· ∈ before)), fun _ => ?_⟩
  · rw [hps, List.mem_append] at hp
    exact Or.inr hp
  · obtain ⟨_, _, _, _, _, hz, hn⟩ := hW
    refine ⟨hok, _, _, ([] ++ pa) ++ pv, ⟨[] ++ pa, pv, trodAll_append (hargs _ (fun _ _ => rfl)) (hres _ _ _), hvars _ (fun _ _ => rfl), rfl, ?_, ?_⟩, ?_⟩
    · intro b off hp
      have hin : MemPlace.cell b off ∈ before := by rw [hps]; simpa using hp
      rw [hb.frozen (hlt _ hin)]
      exact hz b off hin
    · intro ha
      have := hn ha
      rw [hps] at this
      simpa using this
    · intro p hp _
      rw [hps]
      simpa using hp
end

/-- A call without arguments, whose answer is a plain value. -/
theorem calls_plain {X : Known} (hX : KnownOk Try.prog X) {n : Nat} {f : FuncId} {fn : Func} {c : Code} {v : Value}
    (hf : Try.prog.funcs[f]? = some fn) (hb : fn.body = some c) (hp : plain1 v = true) (hr : (callN vbeq Try.prog X n f [] H0).map (·.1) = some v) (w : World) :
    Calls Try.prog f #[] w fun e w' => Below w.heap.size w w' ∧ e = .returned v := by
  cases he : callN vbeq Try.prog X n f [] H0 with
  | none => rw [he] at hr; cases hr
  | some r =>
    obtain ⟨v0, h'⟩ := r
    rw [he] at hr
    simp only [Option.map_some, Option.some.injEq] at hr
    subst hr
    refine (calls_of_callN Try.progOk hX vbeq_eq hf hb he All2.nil w).mono ?_
    rintro e w' ⟨h1, v', μ', rfl, ho⟩
    exact ⟨h1, by rw [vr_plain_eq ho.val hp]⟩
end Go.Proofs.Ytolkoacllaaceaa
