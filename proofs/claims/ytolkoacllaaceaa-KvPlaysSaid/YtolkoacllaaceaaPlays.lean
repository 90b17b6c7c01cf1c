/-
  THE LAW KvPlays.
-/
import Derived.Test.YtolkoacllaaceaaKvC
import Derived.Test.YtolkoacllaaceaaAbsR
import Derived.Test.YtolkoacllaaceaaRows
namespace Go.Proofs.Ytolkoacllaaceaa
open Go Go.Abs Go.RowKit Go.ChangeShapes Go.WideShapes Go.ChangeAt
theorem kvPlays_calls (w : World) (v0 : Value) (h0 : SlIn w zI v0) (v1 : Value) (h1 : SlIn w zP v1) : Calls Try.prog 5 #[v0, v1] w fun e w' => Below w.heap.size w w' ∧ e = .returned (.bool true) := by
  obtain ⟨xs, _, hx, d0⟩ := h0
  obtain ⟨ps, _, _, d1⟩ := h1
  have hpre : IntsOk xs := fun i hi => by
    obtain ⟨m, e, hw⟩ := ints_ok hx i zI hi
    unfold eI
    rw [e]; exact i64_range hw
  exact law_pf Try.progOk Try.func5 (show _ = some (bodyS Try.prog 5) by kernel_rfl) plays_ok rfl (d := (xs, ps, ())) hpre rfl (xs := [dsl zI xs, dsl zP ps]) (by kernel_rfl) (All2.cons d0 (All2.cons d1 All2.nil))
set_option maxRecDepth 100000 in
theorem kvPlays_lifted (os : Os) (started : os.Started) (H : Type) (enc : TypeId × Value → H) :
    ReturnsInHanded {} Try.checked os 5 .any (Rows.kvPlaysSpec.pre6 enc Try.prog Try.f5 Rows.kvPlaysRow.domain false) (Rows.kvPlaysSpec.post enc Try.prog Try.f5 false true false false) := by
  refine returnsInHanded_of_change (C := Try.checked) Try.own started (by kernel_rfl) Try.func5
    (ChangeSpec.witness6 (enc := enc) (C := Try.checked) false ⟨#[], #[.slice none 0 0, .slice none 0 0], []⟩ 40 (by kernel_rfl) (by kernel_rfl) (by kernel_rfl) (by kernel_rfl)) ?_
  intro W base args ds gs before hval0 hW hcnd _
  have hval : ∀ (j : Nat) t v, Try.f5.params[j]? = some t → args[j]? = some v → Value.okWide Try.prog W .any base t v := hval0
  have hW' := hW
  obtain ⟨p, q, hA0, hV, rfl, hfz, hnd⟩ := hW
  have hA : DataW.TrodAll enc Try.prog W 0 (fun _ => true) true Try.f5.params.toList args.toList ds p := hA0
  rw [Try.params5] at hA hval
  have hAk := hA
  obtain ⟨v0, v1, d0, d1, p0, p1, rfl, rfl, rfl, h0, h1⟩ := trodAll_two' hA
  obtain ⟨rfl, rfl⟩ := trodVars_none hV
  have in0 : SlIn W zI v0 := arg_slice (n := 8) (by kernel_rfl) (by decide +kernel) Try.underlying32 (by kernel_rfl) (hval 0 32 v0 rfl rfl) h0
  have in1 : SlIn W zP v1 := arg_slice (n := 8) (by kernel_rfl) (by decide +kernel) Try.underlying22 (by kernel_rfl) (hval 1 22 v1 rfl rfl) h1
  clear hA0 hval0
  have hlt : ∀ x ∈ p0 ++ p1 ++ ([] : List MemPlace), x.block < W.heap.size := fun x hx => hW'.lt x (by simpa using hx)
  refine (kvPlays_calls W v0 in0 v1 in1).mono fun e W' ⟨hb, he⟩ => ?_
  subst he
  exact ⟨_, rfl, post_below (pa := p0 ++ p1 ++ []) (pv := []) hW' (fun _ _ _ => trodAll_mk1 (shut_bool Try.underlying4 true)) (fun sp hsp => trodAll_stays (by kernel_rfl) hb (by decide +kernel) hAk hlt (fun x hx => hsp x (by simpa using hx))) (fun _ _ => rfl) (by simp) hb (ok_one (by kernel_rfl) rfl (okWide_bool_mk Try.underlying4 true))⟩

theorem kvPlays_holds : Rows.KvPlaysSaid :=
  OpenClaim.holds_of_wide 5 Try.f5 rfl rfl rfl rfl rfl rfl rfl ⟨rfl, rfl, rfl, rfl, rfl⟩ rfl rfl rfl rfl rfl (by kernel_rfl) Try.func5 (by kernel_rfl)
    (of_decide_eq_true (by kernel_rfl)) (by unfold Func.isWrapper; first | (rw [if_pos (by decide +kernel)]; kernel_rfl) | (rw [if_neg (by decide +kernel)]; exact ⟨rfl, rfl⟩))
    (fun os started H enc _ => kvPlays_lifted os started H enc)
end Go.Proofs.Ytolkoacllaaceaa
