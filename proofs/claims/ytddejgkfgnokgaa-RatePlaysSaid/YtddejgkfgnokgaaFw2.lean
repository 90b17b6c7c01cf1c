/-
  THE ABSTRACT EVALUATOR AND THE MODEL: copy; all operations that write memory; what the model stands in for.
-/
import Derived.Test.YtddejgkfgnokgaaFw1
import Derived.Laws.Externs
import Derived.KernelRfl
import Derived.Scope
import Derived.ScopeJumps
import Derived.Below
import Derived.Laws.StructEq
import Derived.ChangeKeysEq
section
namespace Go.Abs
open Go

section
variable {P : Program} {μ : Mu} {base : Nat} {w : World}

theorem sourceA_first {xt : TypeId} {x x' : Value} {h : Hp} {m sz : Nat} {news : List Value} (hs : sourceA P sz xt [] x h = some (m, news)) (hr : Rel μ base h.get w) (hx : VR μ x x')
    (hint : ∀ k, P.underlying xt ≠ some (.int k)) :
    (∀ w0, (Builtin.lenOf x').run P w0 = .ok m w0) ∧ news.length = m * sz ∧ ∀ n, n ≤ m → ∃ l', (Builtin.firstCells sz n x').run P w = .ok l' w ∧ All2 (VR1 μ) (news.take (n * sz)) l'.toList := by
  unfold sourceA at hs
  split at hs
  · rename_i k kk n hu
    exact absurd hu (hint k)
  · simp only [Option.some.injEq, Prod.mk.injEq] at hs
    obtain ⟨rfl, rfl⟩ := hs
    have := hx.eq_of_plain (v := .slice none 0 0) rfl; subst this
    exact ⟨fun _ => rfl, by simp, fun n hn => ⟨#[], run_firstCells_none w _ _ _ _, by simpa using All2.nil⟩⟩
  · rename_i t b o n k hu
    cases hc : h.cells b o (n * sz) with
    | none =>
      simp [hc] at hs
      obtain ⟨rfl, rfl, rfl⟩ := hs
      have key : ∀ (a' : Addr) (k' : Nat), (∀ w0, (Builtin.lenOf (.slice (some a') 0 k')).run P w0 = .ok 0 w0) ∧ ([] : List Value).length = 0 * sz ∧ ∀ n, n ≤ 0 → ∃ l', (Builtin.firstCells sz n (.slice (some a') 0 k')).run P w = .ok l' w ∧ All2 (VR1 μ) (([] : List Value).take (n * sz)) l'.toList := fun a' k' => by
        refine ⟨fun _ => rfl, by simp, fun q hq => ⟨#[], ?_, by simpa using All2.nil⟩⟩
        have hq0 : q = 0 := by omega
        subst hq0
        exact run_firstCells_some w sz 0 a' 0 k' [] (by simp) (by simp)
      rcases hx.inv_slice with ⟨p, k', hp, rfl, hlen, _⟩ | ⟨_, hk, a', _, rfl⟩
      · exact key _ _
      · exact key _ _
    | some cs =>
      simp [hc] at hs
      obtain ⟨rfl, rfl⟩ := hs
      rcases hx.inv_slice with ⟨p, k', hp, rfl, hlen, _⟩ | ⟨rfl, hk, a', _, rfl⟩
      · obtain ⟨cs', h1, h2, h3⟩ := cells_run hc hr hp
        refine ⟨fun _ => rfl, by rw [h1.1, h2], fun q hq => ⟨(cs'.take (q * sz)).toArray, ?_, by simpa using h1.take (q * sz)⟩⟩
        have hle : q * sz ≤ n * sz := Nat.mul_le_mul_right _ hq
        refine run_firstCells_some w sz q _ n k' (cs'.take (q * sz)) (by rw [List.length_take, h2]; omega) (fun j v hj => h3 j v ?_)
        rw [List.getElem?_take] at hj
        split at hj
        · exact hj
        · cases hj
      · have hcs : cs = [] := by
          unfold Hp.cells at hc
          split at hc
          · split at hc
            · simp at hc; exact hc
            · cases hc
          · cases hc
        subst hcs
        refine ⟨fun _ => rfl, by simp, fun q hq => ⟨#[], ?_, by simpa using All2.nil⟩⟩
        have hq0 : q = 0 := by omega
        subst hq0
        exact run_firstCells_some w sz 0 a' 0 0 [] (by simp) (by simp)
  · rename_i s hu
    split at hs
    · rename_i hsz
      subst hsz
      simp only [Option.some.injEq, Prod.mk.injEq] at hs
      obtain ⟨rfl, rfl⟩ := hs
      have := hx.inv_string; subst this
      refine ⟨fun _ => rfl, by simp [valBytes], fun q hq => ⟨(s.extract 0 q).data.map fun b => Value.int .u8 b.toNat, rfl, ?_⟩⟩
      have : ((s.extract 0 q).data.map fun b => Value.int .u8 b.toNat).toList = (valBytes s).take (q * 1) := by
        rw [ByteArray.data_extract, Array.toList_map, Array.toList_extract, List.extract_eq_take_drop]
        simp [valBytes, List.map_take]
      rw [this]
      exact All2.refl fun a ha => by
        have := List.mem_of_mem_take ha
        obtain ⟨b, _, rfl⟩ := List.mem_map.1 this
        exact .refl_plain rfl
    · cases hs
  · cases hs

theorem copyA_run {argTypes : Array TypeId} {ty dt xt : TypeId} {args : Array Value} {d d' x x' v : Value} {h h' : Hp} (hs : copyA P dt xt d x h = some (v, h'))
    (h0 : argTypes[0]? = some dt) (ha0 : args[0]? = some d') (ha1 : args[1]? = some x') (hr : Rel μ base h.get w) (hd : VR μ d d') (hx : VR μ x x') :
    ∃ v' w', (Builtin.copy_ argTypes ty args).run P w = .ok v' w' ∧ Out μ base h w v h' v' w' μ := by
  unfold copyA at hs
  split at hs
  · rename_i e hu
    split at hs
    · rename_i sz hsz
      split at hs
      · cases hs
      · rename_i hni
        have hint : ∀ k, P.underlying xt ≠ some (.int k) := fun k e => hni k e
        split at hs
        · rename_i m news hsrc
          simp only [Option.some.injEq, Prod.mk.injEq] at hs
          obtain ⟨rfl, rfl⟩ := hs
          have := hd.eq_of_plain (v := .slice none 0 0) rfl; subst this
          obtain ⟨hl, hnl, hf⟩ := sourceA_first hsrc hr hx hint
          obtain ⟨l', h1, h2⟩ := hf 0 (Nat.zero_le _)
          refine ⟨goInt 0, w, ?_, Out.same (.plain1 rfl) (Sim.refl hr) rfl (.refl μ _)⟩
          simp [Builtin.copy_, h0, ha0, ha1, run_underlying hu, hl, szA_run hsz, h1]
        · rename_i m news b o len cap hsrc
          split at hs
          · rename_i cs hg
            split at hs
            · rename_i hc
              simp only [Option.some.injEq, Prod.mk.injEq] at hs
              obtain ⟨rfl, rfl⟩ := hs
              obtain ⟨hl, hnl, hf⟩ := sourceA_first hsrc hr hx hint
              obtain ⟨l', h1, h2⟩ := hf (min m len) (Nat.min_le_left _ _)
              rcases hd.inv_slice with ⟨p, k', hp, rfl, hlk, hk⟩ | ⟨rfl, hk, a', ⟨p0, hp0⟩, rfl⟩
              · have hmul : min m len * sz ≤ len * sz := Nat.mul_le_mul_right _ (Nat.min_le_right _ _)
                obtain ⟨w', h3, h4⟩ := sim_splice (P := P) hr hp hg (o := o) (by rw [List.length_take]; omega) h2
                refine ⟨_, w', ?_, Out.same (.plain1 rfl) (by rw [get_put_fun (Hp.lt_of_get hg)]; exact h4) rfl (.put hp (Hp.lt_of_get hg))⟩
                have hmin : Nat.min m len = min m len := rfl
                simp [Builtin.copy_, h0, ha0, ha1, run_underlying hu, hl, szA_run hsz, hmin, h1, h3]
                congr 1; omega
              · have hz : min m 0 = 0 := by omega
                rw [hz] at h1 h2
                simp only [Nat.zero_mul, List.take_zero] at h2
                have hself : (h.put b (some (.cells (spliceL cs o (news.take (min m 0 * sz))) false))).get = h.get := by
                  rw [hz, get_put_fun (Hp.lt_of_get hg)]
                  simp only [Nat.zero_mul, List.take_zero, spliceL]
                  funext c
                  by_cases e : c = b
                  · subst e; rw [if_pos rfl, hg]
                  · rw [if_neg e]
                have hl0 : l'.toList = [] := h2.inv_nil
                have hv0 : goInt (min (m : Int) (0 : Nat)) = goInt 0 := by congr 1; omega
                rw [hv0]
                refine ⟨goInt 0, w, ?_, Out.same (.plain1 rfl) (by rw [hself]; exact Sim.refl hr) rfl (fun c _ _ => .inl (by rw [hself]))⟩
                simp [Builtin.copy_, h0, ha0, ha1, run_underlying hu, hl, szA_run hsz, h1, hl0, storeCells]
            · cases hs
          · cases hs
        · cases hs
    · cases hs
  · cases hs

/-- EACH OPERATION THAT WRITES MEMORY. -/
theorem simE {o : Oper} {ρ ρ' : Operand → Value} {v : Value} {h h' : Hp} (hs : stepE P ρ o h = some (v, h')) (hr : OpR μ ρ ρ' o.op.operands.toList) (hrel : Rel μ base h.get w) (hfr : h.next < h'.next → μ h.next = none) :
    ∃ w' μ', Out μ base h w v h' v w' μ' ∧ (execOp ρ' o).run P w = .ok .skip w' ∧ v = undef ∨
    ∃ v' w' μ', Out μ base h w v h' v' w' μ' ∧ (execOp ρ' o).run P w = .ok (.value v') w' := by
  obtain ⟨dst, op, ty, pos, after, guard⟩ := o
  unfold OpR at hr
  cases op <;> first | (simp [stepE] at hs; done) | skip
  all_goals simp only [stepE] at hs
  all_goals simp only [Op.operands] at hr
  all_goals simp only [execOp]
  case store t a x =>
    cases e : storeA P t (ρ a) (ρ x) h with
    | none => simp [e] at hs
    | some h2 =>
      simp [e] at hs
      obtain ⟨rfl, rfl⟩ := hs
      obtain ⟨w', h1, h2, h3, h4⟩ := storeA_run e hrel (hr a (by simp)) (hr x (by simp))
      exact ⟨w', μ, .inl ⟨Out.same (.undef μ) h2 h3 h4, by simp [h1], rfl⟩⟩
  case mapUpdate t m k x =>
    cases e : mapUpdateA P t (ρ m) (ρ k) (ρ x) h with
    | none => simp [e] at hs
    | some h2 =>
      simp [e] at hs
      obtain ⟨rfl, rfl⟩ := hs
      obtain ⟨w', h1, h2, h3, h4⟩ := mapUpdateA_run e hrel (hr m (by simp)) (hr k (by simp)) (hr x (by simp))
      exact ⟨w', μ, .inl ⟨Out.same (.undef μ) h2 h3 h4, by simp [h1], rfl⟩⟩
  case insert t m k x =>
    cases e : mapUpdateA P t (ρ m) (ρ k) (ρ x) h with
    | none => simp [e] at hs
    | some h2 =>
      simp [e] at hs
      obtain ⟨rfl, rfl⟩ := hs
      obtain ⟨w', h1, h2, h3, h4⟩ := mapUpdateA_run e hrel (hr m (by simp)) (hr k (by simp)) (hr x (by simp))
      exact ⟨w', μ, .inl ⟨Out.same (.undef μ) h2 h3 h4, by simp [h1], rfl⟩⟩
  case mapEntry t m k =>
    obtain ⟨v', w', h1, h2, h3, h4, h5⟩ := mapEntryA_run hs hrel (hr m (by simp)) (hr k (by simp))
    exact ⟨w', μ, .inr ⟨v', w', μ, Out.same h2 h3 h4 h5, by simp [h1]⟩⟩
  case entryStore t m s x =>
    cases e : entryStoreA (ρ m) (ρ s) (ρ x) h with
    | none => simp [e] at hs
    | some h2 =>
      simp [e] at hs
      obtain ⟨rfl, rfl⟩ := hs
      obtain ⟨w', h1, h2, h3, h4⟩ := entryStoreA_run (P := P) (t := t) e hrel (hr m (by simp)) (hr s (by simp)) (hr x (by simp))
      refine ⟨w', μ, .inl ⟨Out.same (.undef μ) h2 h3 h4, ?_, rfl⟩⟩
      simp only [Sem.run_bind, h1, Result.andThen_ok, Sem.run_pure]
  case call c =>
    obtain ⟨cal, args, argTypes⟩ := c
    cases cal with
    | value f => simp at hs
    | invoke r n => simp at hs
    | builtin b =>
      simp only at hs
      have hl : All2 (VR μ) (args.toList.map ρ) (args.map ρ').toList := by
        rw [Array.toList_map]
        exact list_rel fun x hx => hr x (by simpa [Call.operands] using hx)
      refine ⟨w, μ, .inr ?_⟩
      split at hs
      · rename_i st xt s x ht ha
        rw [ha] at hl
        obtain ⟨s', l1, hs1, hsv, hl1⟩ := hl.inv_cons
        obtain ⟨x', l2, rfl, hxv, hl2⟩ := hl1.inv_cons
        have := hl2.inv_nil; subst this
        have h0 : argTypes[0]? = some st := by rw [← Array.getElem?_toList, ht]; rfl
        have h1 : argTypes[1]? = some xt := by rw [← Array.getElem?_toList, ht]; rfl
        have ha0 : (args.map ρ')[0]? = some s' := by rw [← Array.getElem?_toList, hs1]; rfl
        have ha1 : (args.map ρ')[1]? = some x' := by rw [← Array.getElem?_toList, hs1]; rfl
        obtain ⟨v', w', μ', h2, h3⟩ := appendA_run (ty := ty) hs h0 h1 ha0 ha1 hrel hfr hsv hxv
        exact ⟨v', w', μ', h3, by simp only [resolve, invoke, builtin, Sem.run_bind, Sem.run_pure, Result.andThen_ok, h2]⟩
      · rename_i dt xt d x ht ha
        rw [ha] at hl
        obtain ⟨s', l1, hs1, hsv, hl1⟩ := hl.inv_cons
        obtain ⟨x', l2, rfl, hxv, hl2⟩ := hl1.inv_cons
        have := hl2.inv_nil; subst this
        have h0 : argTypes[0]? = some dt := by rw [← Array.getElem?_toList, ht]; rfl
        have ha0 : (args.map ρ')[0]? = some s' := by rw [← Array.getElem?_toList, hs1]; rfl
        have ha1 : (args.map ρ')[1]? = some x' := by rw [← Array.getElem?_toList, hs1]; rfl
        obtain ⟨v', w', h2, h3⟩ := copyA_run (ty := ty) hs h0 ha0 ha1 hrel hsv hxv
        exact ⟨v', w', μ, h3, by simp only [resolve, invoke, builtin, Sem.run_bind, Sem.run_pure, Result.andThen_ok, h2]⟩
      · rename_i t ts m k ht ha
        rw [ha] at hl
        obtain ⟨s', l1, hs1, hsv, hl1⟩ := hl.inv_cons
        obtain ⟨x', l2, rfl, hxv, hl2⟩ := hl1.inv_cons
        have := hl2.inv_nil; subst this
        have h0 : argTypes[0]? = some t := by rw [← Array.getElem?_toList, ht]; rfl
        have ha0 : (args.map ρ')[0]? = some s' := by rw [← Array.getElem?_toList, hs1]; rfl
        have ha1 : (args.map ρ')[1]? = some x' := by rw [← Array.getElem?_toList, hs1]; rfl
        cases e : deleteA P t m k h with
        | none => simp [e] at hs
        | some h2 =>
          simp [e] at hs
          obtain ⟨rfl, rfl⟩ := hs
          obtain ⟨w', h2, h3, h4, h5⟩ := deleteA_run (ty := ty) e h0 ha0 ha1 hrel hsv hxv
          exact ⟨_, w', μ, Out.same (.undef μ) h3 h4 h5, by simp only [resolve, invoke, builtin, Sem.run_bind, Sem.run_pure, Result.andThen_ok, h2]; rfl⟩
      · cases hs

theorem look_clone : Extern.allRows.lookup "maps.clone" = some Extern.MapsClone.clone := by kernel_rfl
theorem look_clone_g : Extern.allGenericRows.lookup "maps.clone" = none := by kernel_rfl
theorem look_clone_t : Extern.allTypedRows.lookup "maps.clone" = none := by kernel_rfl
theorem look_clone_n : Extern.allNextRows.lookup "maps.clone" = none := by kernel_rfl
theorem look_cmp : Extern.allRows.lookup "internal/bytealg.abigen_runtime_cmpstring" = some Extern.BytealgCompare.compare := by kernel_rfl
theorem look_cmp_g : Extern.allGenericRows.lookup "internal/bytealg.abigen_runtime_cmpstring" = none := by kernel_rfl
theorem look_cmp_t : Extern.allTypedRows.lookup "internal/bytealg.abigen_runtime_cmpstring" = none := by kernel_rfl
theorem look_cmp_n : Extern.allNextRows.lookup "internal/bytealg.abigen_runtime_cmpstring" = none := by kernel_rfl
theorem look_none_n : Extern.allNextRows.lookup "" = none := by kernel_rfl

/-- What the model stands in for. -/
theorem externA_run {fn : Func} {args : List Value} {args' : Array Value} {v : Value} {h h' : Hp} (hs : externA fn.name fn.origin args h = some (v, h')) (hl : All2 (VR μ) args args'.toList)
    (hrel : Rel μ base h.get w) (hfr0 : h.next < h'.next → μ h.next = none) {f : FuncId} (hf : P.funcs[f]? = some fn) (hb : fn.body = none) :
    ∃ v' w' μ', (callFunc f args').run P w = .ok (.value v') w' ∧ Out μ base h w v h' v' w' μ' := by
  unfold externA at hs
  split at hs
  · cases hs
  · rename_i ho
    have ho' : fn.origin = "" := by
      by_cases e : fn.origin = ""
      · exact e
      · exact absurd e ho
    split at hs
    · rename_i hn
      have hfn : Extern.findNext fn = none := by simp [Extern.findNext, hn, ho', look_clone_n, look_none_n]
      have hfd : Extern.find fn = some Extern.MapsClone.clone := by simp [Extern.find, hn, look_clone, look_clone_g, look_clone_t]
      have hcf := run_callFunc_extern hf (by rw [hn]; rfl) (by rw [hb]; rfl) hfn hfd args' w
      split at hs
      · rename_i t r
        obtain ⟨y, l1, hy, hyv, hl1⟩ := hl.inv_cons
        have := hl1.inv_nil; subst this
        obtain ⟨y0, rfl, hy0⟩ := hyv.inv_iface
        obtain ⟨p, hp, rfl⟩ := (VR.zero hy0).inv_map
        have hargs : args' = #[.iface t (.map (some p.c))] := Array.ext' (by rw [hy])
        subst hargs
        split at hs
        · rename_i es ck hg
          simp only [Option.some.injEq, Prod.mk.injEq] at hs
          obtain ⟨rfl, rfl⟩ := hs
          obtain ⟨es', hw, hes, hpb⟩ := hrel.blk r p _ hp hg
          have hfr := hfr0 (Nat.lt_succ_self _)
          have hgr := grow_alloc w (.map es' ck)
          refine ⟨.iface t (.map (some w.heap.size)), w.alloc (.map es' ck), Mu.upd μ h.next ⟨w.heap.size, 0, 0⟩, ?_, ?_, ?_, Nat.le_succ _, dom_upd rfl, .push μ h _⟩
          · rw [hcf]
            have hc : Extern.MapsClone.clone #[.iface t (.map (some p.c))] = (do
                let .map entries clock ← getObj p.c | stuck "maps.clone: a map expected"
                pure (.iface t (.map (some (← newObj (.map entries clock)))))) := rfl
            rw [hc]
            simp [getObj_map hw]
          · exact .one (.iface (.map (Mu.upd_same μ h.next ⟨w.heap.size, 0, 0⟩)))
          · rw [get_push_fun]
            exact sim_new hrel hgr hfr rfl ⟨es', hgr.new, hes.mono fun _ _ _ r => ⟨r.key, r.born, r.val.mono (Mu.le_upd hfr)⟩, hrel.size⟩
        · rename_i kz vz es hg
          simp only [Option.some.injEq, Prod.mk.injEq] at hs
          obtain ⟨rfl, rfl⟩ := hs
          obtain ⟨es', ck, hw, hes, hpb, hkz, hwf⟩ := hrel.blk r p _ hp hg
          have hfr := hfr0 (Nat.lt_succ_self _)
          have hgr := grow_alloc w (.map es' ck)
          refine ⟨.iface t (.map (some w.heap.size)), w.alloc (.map es' ck), Mu.upd μ h.next ⟨w.heap.size, 0, 0⟩, ?_, ?_, ?_, Nat.le_succ _, dom_upd rfl, .push μ h _⟩
          · rw [hcf]
            have hc : Extern.MapsClone.clone #[.iface t (.map (some p.c))] = (do
                let .map entries clock ← getObj p.c | stuck "maps.clone: a map expected"
                pure (.iface t (.map (some (← newObj (.map entries clock)))))) := rfl
            rw [hc]
            simp [getObj_map hw]
          · exact .one (.iface (.map (Mu.upd_same μ h.next ⟨w.heap.size, 0, 0⟩)))
          · rw [get_push_fun]
            exact sim_new hrel hgr hfr rfl ⟨es', ck, hgr.new, hes, hrel.size, hkz, hwf⟩
        · cases hs
      · cases hs
    · split at hs
      · rename_i hn
        have hfn : Extern.findNext fn = none := by simp [Extern.findNext, hn, ho', look_cmp_n, look_none_n]
        have hfd : Extern.find fn = some Extern.BytealgCompare.compare := by simp [Extern.find, hn, look_cmp, look_cmp_g, look_cmp_t]
        have hcf := run_callFunc_extern hf (by rw [hn]; rfl) (by rw [hb]; rfl) hfn hfd args' w
        split at hs
        · rename_i a b
          simp only [Option.some.injEq, Prod.mk.injEq] at hs
          obtain ⟨rfl, rfl⟩ := hs
          obtain ⟨y, l1, hy, hyv, hl1⟩ := hl.inv_cons
          obtain ⟨z, l2, rfl, hzv, hl2⟩ := hl1.inv_cons
          have := hl2.inv_nil; subst this
          have := hyv.inv_string; subst this
          have := hzv.inv_string; subst this
          have hargs : args' = #[.string a, .string b] := Array.ext' (by rw [hy])
          subst hargs
          refine ⟨goInt (Lib.compareBytes a.data.toList b.data.toList), w, μ, ?_, Out.same (.plain1 rfl) (Sim.refl hrel) rfl (.refl μ _)⟩
          rw [hcf]
          have hc : Extern.BytealgCompare.compare #[.string a, .string b] = (do pure (goInt (Extern.BytealgCompare.cmp (← Extern.Bytes.bytesOf (.string a)) (← Extern.Bytes.bytesOf (.string b))))) := rfl
          rw [hc]
          simp [Extern.Bytes.bytesOf, Lib.cmp_eq]
        · cases hs
      · cases hs
end
end Go.Abs
end
section
namespace Go.Abs
open Go

/-- No number from lo on below hi is taken. -/
def Fresh (μ : Mu) (lo hi : Nat) : Prop := ∀ b, lo ≤ b → b < hi → μ b = none

/-- What a call of a function comes to in the model: a value at once, or a walk of its body. -/
def Does (P : Program) (f : FuncId) (args : Array Value) (w : World) (R : Value → World → Prop) : Prop :=
  (∃ v w', (callFunc f args).run P w = .ok (.value v) w' ∧ R v w') ∨
  ((callFunc f args).run P w = .ok (.enter f args) w ∧ Calls P f args w fun e w' => ∃ v, e = .returned v ∧ R v w')

structure CallOk (P : Program) (call : Caller) : Prop where
  next : ∀ {f args h v h'}, call f args h = some (v, h') → h.next ≤ h'.next
  does : ∀ {f args h v h'}, call f args h = some (v, h') → ∀ {μ : Mu} {base : Nat} {w : World} {args' : Array Value}, All2 (VR μ) args args'.toList → Rel μ base h.get w → Fresh μ h.next h'.next →
    Does P f args' w fun v' w' => ∃ μ', Out μ base h w v h' v' w' μ'

section
variable {P : Program}

theorem storeA_next {t : TypeId} {a x : Value} {h h' : Hp} (e : storeA P t a x h = some h') : h.next ≤ h'.next := by
  unfold storeA at e
  repeat' split at e
  all_goals first
    | (cases e; done)
    | (simp only [Option.some.injEq] at e; subst e; simp)
theorem mapUpdateA_next {t : TypeId} {a k x : Value} {h h' : Hp} (e : mapUpdateA P t a k x h = some h') : h.next ≤ h'.next := by
  unfold mapUpdateA at e
  repeat' split at e
  all_goals first
    | (cases e; done)
    | (simp only [Option.some.injEq] at e; subst e; simp)
theorem mapEntryA_next {t : TypeId} {a k v : Value} {h h' : Hp} (e : mapEntryA P t a k h = some (v, h')) : h.next ≤ h'.next := by
  unfold mapEntryA at e
  repeat' split at e
  all_goals first
    | (cases e; done)
    | (simp only [Option.some.injEq, Prod.mk.injEq] at e; obtain ⟨_, rfl⟩ := e; simp)
theorem entryStoreA_next {a k x : Value} {h h' : Hp} (e : entryStoreA a k x h = some h') : h.next ≤ h'.next := by
  unfold entryStoreA at e
  repeat' split at e
  all_goals first
    | (cases e; done)
    | (simp only [Option.some.injEq] at e; subst e; simp)
theorem deleteA_next {t : TypeId} {a k : Value} {h h' : Hp} (e : deleteA P t a k h = some h') : h.next ≤ h'.next := by
  unfold deleteA at e
  repeat' split at e
  all_goals first
    | (cases e; done)
    | (simp only [Option.some.injEq] at e; subst e; simp)
theorem appendA_next {st xt : TypeId} {s x v : Value} {h h' : Hp} (e : appendA P st xt s x h = some (v, h')) : h.next ≤ h'.next := by
  unfold appendA at e
  repeat' split at e
  all_goals first
    | (cases e; done)
    | (simp only [Option.some.injEq, Prod.mk.injEq] at e; obtain ⟨_, rfl⟩ := e; simp)
theorem copyA_next {st xt : TypeId} {s x v : Value} {h h' : Hp} (e : copyA P st xt s x h = some (v, h')) : h.next ≤ h'.next := by
  unfold copyA at e
  repeat' split at e
  all_goals first
    | (cases e; done)
    | (simp only [Option.some.injEq, Prod.mk.injEq] at e; obtain ⟨_, rfl⟩ := e; simp)
theorem externA_next {n o : String} {args : List Value} {v : Value} {h h' : Hp} (e : externA n o args h = some (v, h')) : h.next ≤ h'.next := by
  unfold externA at e
  repeat' split at e
  all_goals first
    | (cases e; done)
    | (simp only [Option.some.injEq, Prod.mk.injEq] at e; obtain ⟨_, rfl⟩ := e; simp)

theorem map_undef {x : Option Hp} {v : Value} {h' : Hp} (e : (x.map fun h' => (undef, h')) = some (v, h')) : x = some h' ∧ v = undef := by
  cases x with
  | none => simp at e
  | some y => simp at e; obtain ⟨rfl, rfl⟩ := e; exact ⟨rfl, rfl⟩

theorem stepE_next {ρ : Operand → Value} {o : Oper} {v : Value} {h h' : Hp} (e : stepE P ρ o h = some (v, h')) : h.next ≤ h'.next := by
  unfold stepE at e
  split at e
  · exact storeA_next (map_undef e).1
  · exact mapUpdateA_next (map_undef e).1
  · exact mapUpdateA_next (map_undef e).1
  · exact mapEntryA_next e
  · exact entryStoreA_next (map_undef e).1
  · split at e
    · exact appendA_next e
    · exact copyA_next e
    · exact deleteA_next (map_undef e).1
    · cases e
  · cases e

/-- What an operation of each kind owes. -/
def SemT (P : Program) (ρ : Operand → Value) (o : Oper) (v : Value) : Prop :=
  ∀ {μ : Mu} {ρ' : Operand → Value} (w : World), OpR μ ρ ρ' o.op.operands.toList → ∃ v', (execOp ρ' o).run P w = .ok (.value v') w ∧ VR μ v v'
def SemR (P : Program) (ρ : Operand → Value) (o : Oper) (h : Hp) (v : Value) : Prop :=
  ∀ {μ : Mu} {base : Nat} {w : World} {ρ' : Operand → Value}, OpR μ ρ ρ' o.op.operands.toList → Rel μ base h.get w → ∃ v', (execOp ρ' o).run P w = .ok (.value v') w ∧ VR μ v v'
def SemN (P : Program) (ρ : Operand → Value) (o : Oper) (x : Blk) (f : Nat → Value) : Prop :=
  ∀ {μ : Mu} {base : Nat} {w : World} {ρ' : Operand → Value} {g : Gm}, OpR μ ρ ρ' o.op.operands.toList → Rel μ base g w → ∀ {b : Nat}, μ b = none →
    ∃ v' w' p z, (execOp ρ' o).run P w = .ok (.value v') w' ∧ VR (Mu.updz μ b p z) (f b) v' ∧ Sim μ base g w (Mu.updz μ b p z) (fun c => if c = b then some x else g c) w'
def SemE (P : Program) (o : Oper) (s : St) (v : Value) (h' : Hp) : Prop :=
  ∀ {μ : Mu} {base : Nat} {w : World} {a : Act} {K : Act → World → Prop} {Q : Exit → Act → World → Prop}, OpR μ (evA s.tmps) a.eval o.op.operands.toList →
    Rel μ base s.h.get w → Fresh μ s.h.next h'.next → (∀ v' w' μ', Out μ base s.h w v h' v' w' μ' → K (a.put o.dst v') w') → o.wp P a w K Q

inductive StepS (P : Program) (o : Oper) (s : St) (v : Value) (h' : Hp) : Prop
  | T : kindOf P o.op = .T → h' = s.h → SemT P (evA s.tmps) o v → StepS P o s v h'
  | R : kindOf P o.op = .R → h' = s.h → SemR P (evA s.tmps) o s.h v → StepS P o s v h'
  | N {x : Blk} {f : Nat → Value} : kindOf P o.op = .N → v = f s.h.next → h' = s.h.push x → SemN P (evA s.tmps) o x f → StepS P o s v h'
  | E : isEff P o = true → s.h.next ≤ h'.next → SemE P o s v h' → StepS P o s v h'

theorem StepS.next {o : Oper} {s : St} {v : Value} {h' : Hp} (e : StepS P o s v h') : s.h.next ≤ h'.next := by
  cases e with
  | T _ h _ => rw [h]; exact Nat.le_refl _
  | R _ h _ => rw [h]; exact Nat.le_refl _
  | N _ _ h _ => rw [h]; simp
  | E _ h _ => exact h

theorem stepO_ok {call : Caller} {o : Oper} {s : St} {v : Value} {h' : Hp} (e : stepO P call o s = some (v, h')) : o.op.operands.toList.all okOperand = true := by
  unfold stepO at e
  split at e
  · assumption
  · cases e

/-- ONE OPERATION: what the evaluator gives, the model gives. -/
theorem stepS_of {call : Caller} (hc : CallOk P call) {o : Oper} {s : St} {v : Value} {h' : Hp} (e : stepO P call o s = some (v, h')) : StepS P o s v h' := by
  unfold stepO at e
  split at e
  · rename_i hok
    split at e
    · rename_i hkind
      cases h : stepT P (evA s.tmps) o with
      | none => simp [h] at e
      | some u =>
        simp [h] at e; obtain ⟨rfl, rfl⟩ := e
        exact .T hkind rfl fun {μ ρ'} w hr => simT h hr w
    · rename_i hkind
      cases h : stepR P (evA s.tmps) o s.h with
      | none => simp [h] at e
      | some u =>
        simp [h] at e; obtain ⟨rfl, rfl⟩ := e
        exact .R hkind rfl fun {μ base w ρ'} hr hrel => simR hkind h hr hrel
    · rename_i hkind
      cases h : stepN P (evA s.tmps) o with
      | none => simp [h] at e
      | some u =>
        obtain ⟨x, f⟩ := u
        simp [h] at e; obtain ⟨rfl, rfl⟩ := e
        exact .N hkind rfl rfl fun {μ base w ρ' g} hr hrel {b} hb => simNz hkind h hr hrel hb
    · rename_i hkind
      refine .E (by unfold isEff; rw [hkind]) (stepE_next e) fun {μ base w a K Q} hr hrel hf hk => ?_
      unfold Oper.wp
      obtain ⟨w1, μ1, h1⟩ := simE e hr hrel (fun hlt => hf s.h.next (Nat.le_refl _) hlt)
      rcases h1 with ⟨h1, h2, rfl⟩ | ⟨v', w', μ', h1, h2⟩
      · rw [h2]; exact hk _ w1 μ1 h1
      · rw [h2]; exact hk v' w' μ' h1
    · rename_i hkind
      split at e
      · rename_i c hop
        split at e
        · rename_i g args hcal
          refine .E (by unfold isEff; rw [hkind]) (hc.next e) fun {μ base w a K Q} hr hrel hf hk => ?_
          unfold Oper.wp
          have hex : ∃ args', (execOp a.eval o).run P w = (callFunc g args').run P w ∧ All2 (VR μ) args args'.toList := by
            unfold callee at hcal
            split at hcal
            · rename_i f hcf
              split at hcal
              · rename_i g0 first captured hfv
                simp only [Option.some.injEq, Prod.mk.injEq] at hcal
                obtain ⟨rfl, rfl⟩ := hcal
                have hmf : f ∈ o.op.operands.toList := by rw [hop]; simp [Op.operands, Call.operands, hcf]
                have hfr := hr f hmf
                rw [hfv] at hfr
                obtain ⟨first', cap', hfe, h1, h2⟩ := hfr.inv_func rfl
                refine ⟨first' ++ c.args.map a.eval ++ cap', ?_, ?_⟩
                · unfold execOp
                  simp only [hop, resolve, hcf, Deferred.ofValue, hfe, Sem.run_bind, Sem.run_pure, Result.andThen_ok, invoke]
                · rw [Array.toList_append, Array.toList_append, Array.toList_map]
                  refine ((h1.mono fun _ _ _ r => .zero r).append (list_rel fun x hx => hr x ?_)).append (h2.mono fun _ _ _ r => .zero r)
                  rw [hop]; simp [Op.operands, Call.operands]; exact .inr (by simpa using hx)
              · cases hcal
            · cases hcal
          obtain ⟨args', h1, h2⟩ := hex
          rw [h1]
          rcases hc.does e h2 hrel hf with ⟨v', w', h3, μ', h4⟩ | ⟨h3, h4⟩
          · rw [h3]; exact hk v' w' μ' h4
          · rw [h3]
            simp only [Oper.upon]
            exact h4.mono fun en w' ⟨v', he, μ', ho⟩ => by subst he; exact hk v' w' μ' ho
        · cases e
      · cases e
    · cases e
  · cases e

theorem runOps_next {call : Caller} (hc : CallOk P call) {ops : Array Oper} : ∀ {l : List Oper} {s s' : St}, runOps P call ops l s = some s' → s.h.next ≤ s'.h.next
  | [], s, s', e => by simp only [runOps, Option.some.injEq] at e; subst e; exact Nat.le_refl _
  | o :: l, s, s', e => by
    unfold runOps at e
    split at e
    · split at e
      · split at e
        · rename_i v h hs
          have h1 := (stepS_of hc hs).next
          have h2 := runOps_next hc e
          exact Nat.le_trans h1 h2
        · cases e
      · exact runOps_next hc (s := ⟨s.put o.dst undef, s.h⟩) e
    · cases e

variable {μ : Mu} {base : Nat} {w : World}

theorem StepS.sound {o : Oper} {s : St} {v : Value} {h' : Hp} (e : StepS P o s v h') {a : Act} (hr : OpR μ (evA s.tmps) a.eval o.op.operands.toList)
    (hrel : Rel μ base s.h.get w) (hf : Fresh μ s.h.next h'.next) {K : Act → World → Prop} {Q : Exit → Act → World → Prop}
    (hk : ∀ v' w' μ', Out μ base s.h w v h' v' w' μ' → K (a.put o.dst v') w') : o.wp P a w K Q := by
  cases e with
  | T hkind hh hs =>
    subst hh
    obtain ⟨v', h1, h2⟩ := hs w hr
    unfold Oper.wp; rw [h1]
    exact hk v' w μ (Out.same h2 (Sim.refl hrel) rfl (.refl μ _))
  | R hkind hh hs =>
    subst hh
    obtain ⟨v', h1, h2⟩ := hs hr hrel
    unfold Oper.wp; rw [h1]
    exact hk v' w μ (Out.same h2 (Sim.refl hrel) rfl (.refl μ _))
  | N hkind hv hh hs =>
    subst hh; subst hv
    obtain ⟨v', w', p, z, h1, h2, h3⟩ := hs hr hrel (hf s.h.next (Nat.le_refl _) (by simp))
    unfold Oper.wp; rw [h1]
    exact hk v' w' _ ⟨h2, by rw [get_push_fun]; exact h3, by simp, fun b hb => dom_upd (p := p) rfl b hb, .push μ s.h _⟩
  | E _ _ hs => exact hs hr hrel hf hk

/-- What states are like behind some code. -/
structure StOut (μ : Mu) (base : Nat) (s : St) (w : World) (s' : St) (a' : Act) (w' : World) (μ' : Mu) : Prop where
  tmps : TR μ' s'.tmps a'.tmps
  defers : a'.defers = []
  sim : Sim μ base s.h.get w μ' s'.h.get w'
  dom : ∀ b, μ' b ≠ μ b → s.h.next ≤ b ∧ b < s'.h.next
  keep : Keeps μ s.h s'.h

theorem StOut.trans {s s1 s2 : St} {w1 w2 : World} {a1 a2 : Act} {μ1 μ2 : Mu} (h : StOut μ base s w s1 a1 w1 μ1) (k : StOut μ1 base s1 w1 s2 a2 w2 μ2) (h1 : s.h.next ≤ s1.h.next) (h2 : s1.h.next ≤ s2.h.next) :
    StOut μ base s w s2 a2 w2 μ2 :=
  ⟨k.tmps, k.defers, h.sim.trans k.sim, fun b hb => by
    by_cases e : μ2 b = μ1 b
    · have := h.dom b (by rw [← e]; exact hb); omega
    · have := k.dom b e; omega,
   fun c hc hn => by
    have hn1 : μ1 c = none := by
      by_cases e : μ1 c = μ c
      · rw [e]; exact hn
      · have := h.dom c e; omega
    rcases k.keep c (by omega) hn1 with e | e
    · rw [e]; exact h.keep c hc hn
    · exact .inr e⟩
theorem StOut.fresh {s s1 : St} {w1 : World} {a1 : Act} {μ1 : Mu} {hi : Nat} (h : StOut μ base s w s1 a1 w1 μ1) (hf : Fresh μ s.h.next hi) (hle : s.h.next ≤ s1.h.next) : Fresh μ1 s1.h.next hi := by
  intro b h1 h2
  by_cases e : μ1 b = μ b
  · rw [e]; exact hf b (by omega) h2
  · have := h.dom b e; omega
theorem Fresh.left {lo mid hi : Nat} (h : Fresh μ lo hi) (hm : mid ≤ hi) : Fresh μ lo mid := fun b h1 h2 => h b h1 (by omega)

theorem put_defers (a : Act) (dst : Option Tmp) (v : Value) : (a.put dst v).defers = a.defers := by cases dst <;> rfl

theorem ops_sound {call : Caller} (hc : CallOk P call) {ops : Array Oper} {Q : Exit → Act → World → Prop} : ∀ {l : List Oper} {s s' : St}, runOps P call ops l s = some s' →
    ∀ {μ : Mu} {a : Act} {w : World}, TR μ s.tmps a.tmps → a.defers = [] → Rel μ base s.h.get w → Fresh μ s.h.next s'.h.next →
    (∀ a' w' μ', StOut μ base s w s' a' w' μ' → Q .normal a' w') → wpList P ops Q l a w
  | [], s, s', e, μ, a, w, ht, hd, hrel, hf, hq => by
    simp only [runOps, Option.some.injEq] at e; subst e
    exact hq a w μ ⟨ht, hd, Sim.refl hrel, fun b hb => absurd rfl hb, .refl μ _⟩
  | o :: l, s, s', e, μ, a, w, ht, hd, hrel, hf, hq => by
    unfold runOps at e
    unfold wpList
    split at e
    case isFalse => cases e
    rename_i hlive
    rw [wanted_rel ht ops o hlive]
    split at e
    · rename_i hw
      rw [if_pos hw]
      split at e
      · rename_i v h hs
        have h1 := (stepS_of hc hs).next
        have h2 := runOps_next hc e
        left
        refine (stepS_of hc hs).sound (opR_of ht (stepO_ok hs)) hrel (hf.left h2) fun v' w' μ' ho => ?_
        have so : StOut μ base s w ⟨s.put o.dst v, h⟩ (a.put o.dst v') w' μ' := ⟨TR.put (s := s) (ht.mono ho.sim.le) o.dst ho.val, by rw [put_defers]; exact hd, ho.sim, ho.dom, ho.keep⟩
        exact ops_sound hc e so.tmps so.defers ho.sim.rel (so.fresh hf h1) fun a2 w2 μ2 h3 => hq a2 w2 μ2 (so.trans h3 h1 h2)
      · cases e
    · rename_i hw
      rw [if_neg hw]
      have h2 := runOps_next hc e
      have so : StOut μ base s w ⟨s.put o.dst undef, s.h⟩ (a.put o.dst undef) w μ := ⟨TR.put (s := s) ht o.dst (.undef μ), by rw [put_defers]; exact hd, Sim.refl hrel, fun b hb => absurd rfl hb, .refl μ _⟩
      exact ops_sound hc e so.tmps so.defers hrel hf fun a2 w2 μ2 h3 => hq a2 w2 μ2 (so.trans h3 (Nat.le_refl _) h2)
end
end Go.Abs
end
section
namespace Go.Abs
open Go

section before
variable {ops : Array Oper}

def befOf (acc : Array Nat) (o : Oper) : Nat :=
  o.after.foldl (fun s e => if Region.binds .any e then s ||| 2 ^ e.on ||| acc.getD e.on 0 else s) 0

theorem before_list : ∀ (l : List Oper) (acc : Array Nat), ∃ r : Array Nat, l.foldl (fun acc o => acc.push (befOf acc o)) acc = r ∧ r.size = acc.size + l.length ∧
    (∀ i, i < acc.size → r.getD i 0 = acc.getD i 0) ∧ ∀ k o, l[k]? = some o → ∃ acc' : Array Nat, acc'.size = acc.size + k ∧ (∀ i, i < acc.size + k → acc'.getD i 0 = r.getD i 0) ∧ r.getD (acc.size + k) 0 = befOf acc' o
  | [], acc => ⟨acc, rfl, by simp, fun _ _ => rfl, fun k o h => by simp at h⟩
  | o :: l, acc => by
    obtain ⟨r, h1, h2, h3, h4⟩ := before_list l (acc.push (befOf acc o))
    have hp : ∀ i, i < acc.size → (acc.push (befOf acc o)).getD i 0 = acc.getD i 0 := by
      intro i hi
      simp only [Array.getD_eq_getD_getElem?, Array.getElem?_push]
      rw [if_neg (by omega)]
    refine ⟨r, by rw [List.foldl_cons]; exact h1, by simp at h2 ⊢; omega, fun i hi => ?_, fun k o' hk => ?_⟩
    · rw [h3 i (by simp; omega), hp i hi]
    · cases k with
      | zero =>
        simp at hk; subst hk
        refine ⟨acc, rfl, fun i hi => ?_, ?_⟩
        · rw [h3 i (by simp; omega), hp i (by omega)]
        · rw [Nat.add_zero, h3 acc.size (by simp)]
          simp [Array.getD_eq_getD_getElem?]
      | succ k =>
        simp at hk
        obtain ⟨acc', h5, h6, h7⟩ := h4 k o' hk
        simp only [Array.size_push] at h5 h6 h7
        exact ⟨acc', by omega, fun i hi => h6 i (by omega), by rw [show acc.size + (k + 1) = acc.size + 1 + k from by omega]; exact h7⟩

theorem before_spec {j : Nat} {o : Oper} (hj : ops[j]? = some o) : ∃ acc' : Array Nat, (∀ i, i < j → acc'.getD i 0 = (Region.before ops).getD i 0) ∧ (Region.before ops).getD j 0 = befOf acc' o := by
  obtain ⟨r, h1, h2, h3, h4⟩ := before_list ops.toList #[]
  have hb : Region.before ops = r := by
    rw [← h1]; unfold Region.before; rw [← Array.foldl_toList]; rfl
  obtain ⟨acc', h5, h6, h7⟩ := h4 j o (by rw [Array.getElem?_toList]; exact hj)
  simp only [List.size_toArray, List.length_nil, Nat.zero_add] at h5 h6 h7
  rw [hb]
  exact ⟨acc', fun i hi => h6 i hi, h7⟩

theorem testBit_fold (acc : Array Nat) (i : Nat) : ∀ (l : List Edge) (s : Nat), (l.foldl (fun s e => if Region.binds .any e then s ||| 2 ^ e.on ||| acc.getD e.on 0 else s) s).testBit i = true →
    s.testBit i = true ∨ ∃ e ∈ l, Region.binds .any e = true ∧ (i = e.on ∨ (acc.getD e.on 0).testBit i = true)
  | [], s, h => .inl h
  | e :: l, s, h => by
    rw [List.foldl_cons] at h
    rcases testBit_fold acc i l _ h with h1 | ⟨e', h1, h2⟩
    · split at h1
      · rename_i hb
        rw [Nat.testBit_or, Nat.testBit_or] at h1
        simp only [Bool.or_eq_true] at h1
        rcases h1 with (h1 | h1) | h1
        · exact .inl h1
        · refine .inr ⟨e, by simp, hb, .inl ?_⟩
          rw [Nat.testBit_two_pow] at h1
          simpa using (of_decide_eq_true h1).symm
        · exact .inr ⟨e, by simp, hb, .inr h1⟩
      · exact .inl h1
    · exact .inr ⟨e', by simp [h1], h2⟩

/-- What comes before an operation comes before it by an edge of its own, or before one that does. -/
theorem ordered_edge {i j : Nat} {o : Oper} (hj : ops[j]? = some o) (hlt : ∀ e ∈ o.after, Region.binds .any e = true → e.on < j) (h : ordered (Region.before ops) i j = true) :
    ∃ e ∈ o.after, Region.binds .any e = true ∧ (i = e.on ∨ ordered (Region.before ops) i e.on = true) := by
  obtain ⟨acc', h1, h2⟩ := before_spec hj
  unfold ordered at h
  rw [h2] at h
  unfold befOf at h
  rw [← Array.foldl_toList] at h
  rcases testBit_fold acc' i _ _ h with h3 | ⟨e, h3, h4, h5⟩
  · simp at h3
  · refine ⟨e, by simpa using h3, h4, ?_⟩
    rcases h5 with h5 | h5
    · exact .inl h5
    · right
      unfold ordered
      rw [← h1 e.on (hlt e (by simpa using h3) h4)]
      exact h5

end before

/-- What Region.ok says. -/
structure ROk (ops : Array Oper) : Prop where
  edge : ∀ {j : Nat} {o : Oper} {e : Edge}, ops[j]? = some o → e ∈ o.after → Region.binds .any e = true → e.on < j
  guard : ∀ {j : Nat} {o : Oper} {g : Nat} {want : Bool}, ops[j]? = some o → o.guard = some (g, want) → ∃ e ∈ o.after, e.on = g ∧ Region.binds .any e = true
  temps : Region.temporariesOk ops (Region.before ops) = true

theorem rok_of {types : Array TypeInfo} {ops : Array Oper} {d : Bool} (h : Region.ok types ops d = true) : ROk ops := by
  unfold Region.ok at h
  simp only [Bool.and_eq_true] at h
  obtain ⟨⟨⟨⟨h1, h2⟩, _⟩, _⟩, _⟩ := h
  have key : ∀ {j : Nat} {o : Oper}, ops[j]? = some o → (o.after.all (fun e => e.on < j || (match e.ground with | .gcOnly _ => e.on != j && e.on < ops.size | _ => false)) = true) ∧
      (match o.guard with | none => true | some (k, _) => o.after.any (fun e => e.on == k && Region.binds .any e) && ((ops[k]?).bind (·.dst)).isSome) = true := by
    intro j o hj
    have hm : (o, j) ∈ ops.zipIdx := by
      rw [Array.mem_zipIdx_iff_getElem?]
      simpa using hj
    have := Array.all_eq_true_iff_forall_mem.1 h1 (o, j) hm
    simp only [Bool.and_eq_true] at this
    exact this
  refine ⟨fun {j o e} hj he hb => ?_, fun {j o g want} hj hg => ?_, h2⟩
  · have := Array.all_eq_true_iff_forall_mem.1 (key hj).1 e he
    simp only [Bool.or_eq_true, decide_eq_true_eq] at this
    rcases this with h3 | h3
    · exact h3
    · exfalso
      unfold Region.binds at hb
      cases hgr : e.ground <;> simp [hgr] at h3 hb
  · have := (key hj).2
    rw [hg] at this
    simp only [Bool.and_eq_true] at this
    obtain ⟨i, hi, h3⟩ := Array.any_eq_true.1 this.1
    simp only [Bool.and_eq_true, beq_iff_eq] at h3
    exact ⟨o.after[i], Array.getElem_mem hi, h3.1, h3.2⟩

/-- The slots that an operation names. -/
def opNames (o : Oper) : List Tmp := o.dst.toList ++ o.op.operands.toList.filterMap fun | .tmp t => some t | _ => none

theorem writers_fold (n : Nat) : ∀ (l : List (Oper × Nat)) (w : Array (List (Tmp × Nat))), w.size = n → 0 < n →
    (∀ d i, (d, i) ∈ w.getD (d % n) [] → (d, i) ∈ (l.foldl (fun w (x : Oper × Nat) => match x.1.dst with | some d => w.modify (d % n) ((d, x.2) :: ·) | none => w) w).getD (d % n) []) ∧
    (∀ o i d, (o, i) ∈ l → o.dst = some d → (d, i) ∈ (l.foldl (fun w (x : Oper × Nat) => match x.1.dst with | some d => w.modify (d % n) ((d, x.2) :: ·) | none => w) w).getD (d % n) [])
  | [], w, _, _ => ⟨fun d i h => h, fun o i d h => by simp at h⟩
  | (o, k) :: l, w, hw, hn => by
    have hstep : ∀ d i, (d, i) ∈ w.getD (d % n) [] ∨ (o.dst = some d ∧ i = k) → (d, i) ∈ (match o.dst with | some d => w.modify (d % n) ((d, k) :: ·) | none => w).getD (d % n) [] := by
      intro d i h
      cases hd : o.dst with
      | none =>
        rcases h with h | ⟨h, _⟩
        · exact h
        · rw [hd] at h; cases h
      | some d0 =>
        have hlt : d0 % n < w.size := by rw [hw]; exact Nat.mod_lt _ hn
        have hlt' : d % n < w.size := by rw [hw]; exact Nat.mod_lt _ hn
        simp only [Array.getD_eq_getD_getElem?, Array.getElem?_modify]
        rcases h with h | ⟨h, rfl⟩
        · simp only [Array.getD_eq_getD_getElem?] at h
          by_cases e : d0 % n = d % n
          · rw [if_pos e]
            rw [Array.getElem?_eq_getElem hlt'] at h ⊢
            simp at h ⊢
            exact .inr h
          · rw [if_neg e]; exact h
        · rw [hd] at h; simp at h; subst h
          rw [if_pos rfl, Array.getElem?_eq_getElem hlt]
          simp
    have hsz : (match o.dst with | some d => w.modify (d % n) ((d, k) :: ·) | none => w).size = n := by
      cases o.dst <;> simp [hw]
    obtain ⟨h1, h2⟩ := writers_fold n l _ hsz hn
    refine ⟨fun d i h => ?_, fun o' i d hm hd => ?_⟩
    · rw [List.foldl_cons]; exact h1 d i (hstep d i (.inl h))
    · rw [List.foldl_cons]
      rcases List.mem_cons.1 hm with h | h
      · simp only [Prod.mk.injEq] at h
        obtain ⟨rfl, rfl⟩ := h
        exact h1 d i (hstep d i (.inr ⟨hd, rfl⟩))
      · exact h2 o' i d h hd

/-- Who writes a slot and who names it are in an order. -/
theorem temps_spec {ops : Array Oper} (h : ROk ops) {i j : Nat} {oi oj : Oper} {t : Tmp} (hi : ops[i]? = some oi) (hj : ops[j]? = some oj) (hd : oi.dst = some t) (hn : t ∈ opNames oj) :
    i = j ∨ ordered (Region.before ops) (min i j) (max i j) = true := by
  have ht := h.temps
  unfold Region.temporariesOk at ht
  simp only at ht
  have hpos : 0 < ops.size := by
    have := (Array.getElem?_eq_some_iff.1 hi).1; omega
  have hmj : (oj, j) ∈ ops.toList.zipIdx := by
    rw [List.mem_zipIdx_iff_getElem?]; simpa using hj
  have hmi : (oi, i) ∈ ops.toList.zipIdx := by
    rw [List.mem_zipIdx_iff_getElem?]; simpa using hi
  have h1 := List.all_eq_true.1 ht (oj, j) hmj
  have h2 := List.all_eq_true.1 h1 t hn
  have hw := (writers_fold ops.size ops.toList.zipIdx (Array.replicate ops.size []) (by simp) hpos).2 oi i t hmi hd
  have h3 := List.all_eq_true.1 h2 (t, i) hw
  simp only [bne_self_eq_false, Bool.false_or, Bool.or_eq_true, beq_iff_eq] at h3
  rcases h3 with h3 | h3
  · exact .inl h3
  · exact .inr h3

/-- The slots behind some of the operations, in the text's order. -/
def tmL (ops : Array Oper) (s0 : List Value) (val : Nat → Value) (L : Nat → Bool) : Nat → List Value
  | 0 => s0
  | k + 1 => if L k then (match (ops[k]?).bind (·.dst) with | some d => (tmL ops s0 val L k).set d (val k) | none => tmL ops s0 val L k) else tmL ops s0 val L k

theorem tmL_len (ops : Array Oper) (s0 : List Value) (val : Nat → Value) (L : Nat → Bool) : ∀ m, (tmL ops s0 val L m).length = s0.length
  | 0 => rfl
  | m + 1 => by
    unfold tmL
    split
    · split <;> simp [tmL_len ops s0 val L m]
    · exact tmL_len ops s0 val L m

/-- A slot depends on who writes it alone. -/
theorem tmL_get (ops : Array Oper) (s0 : List Value) (val : Nat → Value) {L L' : Nat → Bool} (t : Nat) : ∀ m m', (∀ k, k < m → (ops[k]?).bind (·.dst) = some t → L k = true → k < m' ∧ L' k = true) →
    (∀ k, k < m' → (ops[k]?).bind (·.dst) = some t → L' k = true → k < m ∧ L k = true) → (tmL ops s0 val L m)[t]? = (tmL ops s0 val L' m')[t]? := by
  intro m
  induction m with
  | zero =>
    intro m'
    induction m' with
    | zero => intro _ _; rfl
    | succ m' ih =>
      intro h1 h2
      have ih := ih (fun k hk => by omega) (fun k hk hd hL => h2 k (by omega) hd hL)
      rw [ih]
      show _ = (tmL ops s0 val L' (m' + 1))[t]?
      conv => rhs; unfold tmL
      split
      · rename_i hL
        split
        · rename_i d hd
          rw [List.getElem?_set]
          split
          · rename_i e
            subst e
            have := h2 m' (by omega) hd hL
            omega
          · rfl
        · rfl
      · rfl
  | succ m ih =>
    intro m' h1 h2
    by_cases hm : (ops[m]?).bind (·.dst) = some t ∧ L m = true
    · -- the last writer of the one is a writer of the other: cut the other down to it
      obtain ⟨hd, hL⟩ := hm
      obtain ⟨hlt, hL'⟩ := h1 m (by omega) hd hL
      -- behind m no writer of the other
      have cut : ∀ q, m < q → q ≤ m' → (tmL ops s0 val L' q)[t]? = (tmL ops s0 val L' (m + 1))[t]? := by
        intro q
        induction q with
        | zero => intro h; omega
        | succ q ihq =>
          intro hq hq'
          by_cases e : q = m
          · subst e; rfl
          · rw [← ihq (by omega) (by omega)]
            conv => lhs; unfold tmL
            split
            · rename_i hLq
              split
              · rename_i d hdq
                rw [List.getElem?_set]
                split
                · rename_i e'
                  subst e'
                  have := h2 q (by omega) hdq hLq
                  omega
                · rfl
              · rfl
            · rfl
      rw [cut m' (by omega) (Nat.le_refl _)]
      conv => lhs; unfold tmL
      conv => rhs; unfold tmL
      rw [if_pos hL, if_pos hL', hd]
      simp only
      rw [List.getElem?_set, List.getElem?_set, tmL_len, tmL_len, if_pos rfl, if_pos rfl]
    · have ih := ih m' (fun k hk hd hL => h1 k (by omega) hd hL) (fun k hk hd hL => by
        obtain ⟨h3, h4⟩ := h2 k hk hd hL
        refine ⟨?_, h4⟩
        by_cases e : k = m
        · subst e; exact absurd ⟨hd, h4⟩ hm
        · omega)
      rw [← ih]
      conv => lhs; unfold tmL
      split
      · rename_i hL
        split
        · rename_i d hd
          rw [List.getElem?_set]
          split
          · rename_i e; subst e; exact absurd ⟨hd, hL⟩ hm
          · rfl
        · rfl
      · rfl

/-- One operation more. -/
theorem tmL_upd (ops : Array Oper) (s0 : List Value) (val : Nat → Value) {L L' : Nat → Bool} {i n : Nat} {o : Oper} (hi : i < n) (ho : ops[i]? = some o) (hL : L i = false) (hL' : ∀ k, L' k = (L k || k == i))
    (hlate : ∀ k d, i < k → k < n → L k = true → o.dst = some d → (ops[k]?).bind (·.dst) ≠ some d) :
    tmL ops s0 val L' n = (match o.dst with | some d => (tmL ops s0 val L n).set d (val i) | none => tmL ops s0 val L n) := by
  have low : ∀ m, m ≤ i → tmL ops s0 val L' m = tmL ops s0 val L m := by
    intro m
    induction m with
    | zero => intro _; rfl
    | succ m ih =>
      intro hm
      unfold tmL
      rw [hL' m, ih (by omega)]
      have : (m == i) = false := by simp; omega
      rw [this, Bool.or_false]
  have high : ∀ m, i < m → m ≤ n → tmL ops s0 val L' m = (match o.dst with | some d => (tmL ops s0 val L m).set d (val i) | none => tmL ops s0 val L m) := by
    intro m
    induction m with
    | zero => intro h; omega
    | succ m ih =>
      intro h hm
      by_cases e : m = i
      · subst e
        have hs : tmL ops s0 val L' (m + 1) = (match o.dst with | some d => (tmL ops s0 val L m).set d (val m) | none => tmL ops s0 val L m) := by
          conv => lhs; unfold tmL
          rw [hL' m, low m (Nat.le_refl _), ho]
          simp only [beq_self_eq_true, Bool.or_true, if_true, Option.bind_some]
        have hs2 : tmL ops s0 val L (m + 1) = tmL ops s0 val L m := by
          conv => lhs; unfold tmL
          rw [hL]; simp
        rw [hs, hs2]
      · have ih := ih (by omega) (by omega)
        have hne : (m == i) = false := by simp; exact e
        conv => lhs; unfold tmL
        rw [hL' m, hne, Bool.or_false, ih]
        cases hLm : L m with
        | false =>
          have hs2 : tmL ops s0 val L (m + 1) = tmL ops s0 val L m := by
            conv => lhs; unfold tmL
            rw [hLm]; simp
          rw [hs2]
          simp
        | true =>
          have hs2 : tmL ops s0 val L (m + 1) = (match (ops[m]?).bind (·.dst) with | some d => (tmL ops s0 val L m).set d (val m) | none => tmL ops s0 val L m) := by
            conv => lhs; unfold tmL
            rw [hLm]; simp
          rw [hs2]
          simp only [if_true]
          cases hdm : (ops[m]?).bind (·.dst) with
          | none => rfl
          | some d =>
            cases hod : o.dst with
            | none => rfl
            | some d' =>
              have hne' : d ≠ d' := fun e' => hlate m d' (by omega) (by omega) hLm hod (by rw [hdm, e'])
              simp only
              rw [List.set_comm _ _ hne']
  exact high n hi (Nat.le_refl _)

theorem chained_spec {b : Array Nat} : ∀ {l : List Nat}, chained b l = true → l.Pairwise (fun i j => ordered b i j = true)
  | [], _ => List.Pairwise.nil
  | i :: r, h => by
    unfold chained at h
    simp only [Bool.and_eq_true, List.all_eq_true] at h
    exact List.Pairwise.cons h.1 (chained_spec h.2)

/-- Effects are in an order. -/
theorem effs_ordered {P : Program} {ops : Array Oper} (h : chained (Region.before ops) (effs P ops) = true) {i j : Nat} (hij : i < j) (hi : i ∈ effs P ops) (hj : j ∈ effs P ops) :
    ordered (Region.before ops) i j = true := by
  have hp := chained_spec h
  have hs : (effs P ops).Pairwise (· < ·) := List.Pairwise.filter _ List.pairwise_lt_range
  have : ∀ l : List Nat, l.Pairwise (fun i j => ordered (Region.before ops) i j = true) → l.Pairwise (· < ·) → i ∈ l → j ∈ l → ordered (Region.before ops) i j = true := by
    intro l
    induction l with
    | nil => intro _ _ h; simp at h
    | cons a l ih =>
      intro h1 h2 hi hj
      rw [List.pairwise_cons] at h1 h2
      rcases List.mem_cons.1 hi with rfl | hi
      · rcases List.mem_cons.1 hj with rfl | hj
        · omega
        · exact h1.1 j hj
      · rcases List.mem_cons.1 hj with rfl | hj
        · have := h2.1 i (by assumption); omega
        · exact ih h1.2 h2.2 hi hj
  exact this _ hp hs hi hj

theorem mem_effs {P : Program} {ops : Array Oper} {j : Nat} {o : Oper} (hj : ops[j]? = some o) : j ∈ effs P ops ↔ isEff P o = true := by
  unfold effs
  rw [List.mem_filter, List.mem_range]
  have := (Array.getElem?_eq_some_iff.1 hj).1
  rw [hj]
  simp [this]
theorem mem_reads {P : Program} {ops : Array Oper} {j : Nat} {o : Oper} (hj : ops[j]? = some o) : j ∈ reads P ops ↔ isRead P o = true := by
  unfold reads
  rw [List.mem_filter, List.mem_range]
  have := (Array.getElem?_eq_some_iff.1 hj).1
  rw [hj]
  simp [this]
end Go.Abs
end
section
namespace Go.Abs
open Go

section
variable {P : Program} {ops : Array Oper}

/-- The states and values of a run in the text's order; D: what is known besides. -/
inductive Run (P : Program) (D : Oper → St → Value → Hp → Prop) (ops : Array Oper) : List Oper → St → List St → List Value → Prop
  | nil {s : St} : Run P D ops [] s [s] []
  | step {o : Oper} {l : List Oper} {s : St} {v : Value} {h : Hp} {tr : List St} {vs : List Value} : liveG ops o s.tmps = true → wantedA ops o s.tmps = true → o.op.operands.toList.all okOperand = true → StepS P o s v h → D o s v h →
      Run P D ops l ⟨s.put o.dst v, h⟩ tr vs → Run P D ops (o :: l) s (s :: tr) (v :: vs)
  | skip {o : Oper} {l : List Oper} {s : St} {tr : List St} {vs : List Value} : liveG ops o s.tmps = true → wantedA ops o s.tmps = false → Run P D ops l ⟨s.put o.dst undef, s.h⟩ tr vs → Run P D ops (o :: l) s (s :: tr) (undef :: vs)

theorem run_of {call : Caller} (hc : CallOk P call) : ∀ {l : List Oper} {s : St} {tr : List St}, runOpsT P call ops l s = some tr → ∃ vs, Run P (fun o s v h => stepO P call o s = some (v, h)) ops l s tr vs
  | [], s, tr, e => by simp only [runOpsT, Option.some.injEq] at e; subst e; exact ⟨_, .nil⟩
  | o :: l, s, tr, e => by
    unfold runOpsT at e
    split at e
    case isFalse => cases e
    rename_i hlive
    split at e
    · rename_i hw
      split at e
      · rename_i v h hs
        split at e
        · rename_i t ht
          simp only [Option.some.injEq] at e; subst e
          obtain ⟨vs, hr⟩ := run_of hc ht
          exact ⟨_, .step hlive hw (stepO_ok hs) (stepS_of hc hs) hs hr⟩
        · cases e
      · cases e
    · rename_i hw
      split at e
      · rename_i t ht
        simp only [Option.some.injEq] at e; subst e
        obtain ⟨vs, hr⟩ := run_of hc ht
        exact ⟨_, .skip hlive (by simpa using hw) hr⟩
      · cases e

variable {D : Oper → St → Value → Hp → Prop}

theorem trace_of {l : List Oper} {s : St} {tr : List St} {vs : List Value} (e : Run P D ops l s tr vs) : tr.length = l.length + 1 ∧ tr[0]? = some s ∧
    ∀ k o, l[k]? = some o → ∃ sk sk1 v, tr[k]? = some sk ∧ tr[k + 1]? = some sk1 ∧ vs[k]? = some v ∧ liveG ops o sk.tmps = true ∧
      ((wantedA ops o sk.tmps = true ∧ o.op.operands.toList.all okOperand = true ∧ StepS P o sk v sk1.h ∧ D o sk v sk1.h) ∨ (wantedA ops o sk.tmps = false ∧ v = undef ∧ sk1.h = sk.h)) ∧ sk1.tmps = sk.put o.dst v := by
  induction e with
  | nil => exact ⟨rfl, rfl, fun k o h => by simp at h⟩
  | @step o l s v h tr vs hl hw hok hs hD ht ih =>
    obtain ⟨h1, h2, h3⟩ := ih
    refine ⟨by simp [h1], rfl, fun k o' hk => ?_⟩
    cases k with
    | zero =>
      simp at hk; subst hk
      exact ⟨s, ⟨s.put o.dst v, h⟩, v, rfl, by simpa using h2, rfl, hl, .inl ⟨hw, hok, hs, hD⟩, rfl⟩
    | succ k => exact h3 k o' (by simpa using hk)
  | @skip o l s tr vs hl hw ht ih =>
    obtain ⟨h1, h2, h3⟩ := ih
    refine ⟨by simp [h1], rfl, fun k o' hk => ?_⟩
    cases k with
    | zero =>
      simp at hk; subst hk
      exact ⟨s, ⟨s.put o.dst undef, s.h⟩, undef, rfl, by simpa using h2, rfl, hl, .inr ⟨hw, rfl, rfl⟩, rfl⟩
    | succ k => exact h3 k o' (by simpa using hk)

/-- A run in the text's order, by places. -/
structure Trace (P : Program) (ops : Array Oper) (st : Nat → St) (val : Nat → Value) : Prop where
  live : ∀ {k o}, ops[k]? = some o → liveG ops o (st k).tmps = true
  step : ∀ {k o}, ops[k]? = some o →
    ((wantedA ops o (st k).tmps = true ∧ o.op.operands.toList.all okOperand = true ∧ StepS P o (st k) (val k) (st (k + 1)).h) ∨ (wantedA ops o (st k).tmps = false ∧ val k = undef ∧ (st (k + 1)).h = (st k).h)) ∧
    (st (k + 1)).tmps = (st k).put o.dst (val k)

theorem trace_fun {s : St} {tr : List St} {vs : List Value} (e : Run P D ops ops.toList s tr vs) : ∃ (st : Nat → St) (val : Nat → Value), Trace P ops st val ∧ st 0 = s ∧ (∀ k, k ≤ ops.size → tr[k]? = some (st k)) ∧
    (∀ k, k < ops.size → vs[k]? = some (val k)) ∧ ∀ k o, ops[k]? = some o → wantedA ops o (st k).tmps = true → D o (st k) (val k) (st (k + 1)).h := by
  obtain ⟨h1, h2, h3⟩ := trace_of e
  have hl : tr.length = ops.size + 1 := by simpa using h1
  let st : Nat → St := fun k => tr.getD k s
  let val : Nat → Value := fun k => vs.getD k undef
  have hst : ∀ k x, tr[k]? = some x → st k = x := fun k x hx => by simp [st, hx]
  have hval : ∀ k x, vs[k]? = some x → val k = x := fun k x hx => by simp [val, hx]
  have key : ∀ k o, ops[k]? = some o → vs[k]? = some (val k) ∧ liveG ops o (st k).tmps = true ∧
      ((wantedA ops o (st k).tmps = true ∧ o.op.operands.toList.all okOperand = true ∧ StepS P o (st k) (val k) (st (k + 1)).h ∧ D o (st k) (val k) (st (k + 1)).h) ∨ (wantedA ops o (st k).tmps = false ∧ val k = undef ∧ (st (k + 1)).h = (st k).h)) ∧
      (st (k + 1)).tmps = (st k).put o.dst (val k) := by
    intro k o hk
    obtain ⟨sk, sk1, v, h4, h5, h6, h7, h8, h9⟩ := h3 k o (by rw [Array.getElem?_toList]; exact hk)
    rw [hst k sk h4, hst (k + 1) sk1 h5, hval k v h6]
    exact ⟨h6, h7, h8, h9⟩
  refine ⟨st, val, ⟨fun {k o} hk => (key k o hk).2.1, fun {k o} hk => ?_⟩, hst 0 s h2, fun k hk => ?_, fun k hk => (key k _ (Array.getElem?_eq_getElem hk)).1, fun k o hk hw => ?_⟩
  · obtain ⟨_, _, h4, h5⟩ := key k o hk
    refine ⟨?_, h5⟩
    rcases h4 with ⟨a, b, c, _⟩ | h4
    · exact .inl ⟨a, b, c⟩
    · exact .inr h4
  · have hlt : k < tr.length := by omega
    show tr[k]? = some (tr.getD k s)
    rw [List.getD_eq_getElem?_getD, List.getElem?_eq_getElem hlt]; rfl
  · rcases (key k o hk).2.2.1 with ⟨_, _, _, h4⟩ | ⟨h4, _⟩
    · exact h4
    · rw [hw] at h4; cases h4

variable {st : Nat → St} {val : Nat → Value}

theorem Trace.next1 (ht : Trace P ops st val) {k : Nat} (hk : k < ops.size) : (st k).h.next ≤ (st (k + 1)).h.next := by
  rcases (ht.step (Array.getElem?_eq_getElem hk)).1 with ⟨_, _, h⟩ | ⟨_, _, h⟩
  · exact h.next
  · rw [h]; exact Nat.le_refl _
theorem Trace.next (ht : Trace P ops st val) {i j : Nat} (hij : i ≤ j) (hj : j ≤ ops.size) : (st i).h.next ≤ (st j).h.next := by
  induction j with
  | zero => have : i = 0 := by omega
            subst this; exact Nat.le_refl _
  | succ j ih =>
    by_cases e : i = j + 1
    · subst e; exact Nat.le_refl _
    · exact Nat.le_trans (ih (by omega) (by omega)) (ht.next1 (by omega))

/-- An operation that is no effect leaves blocks alone. -/
theorem Trace.quiet (ht : Trace P ops st val) {k : Nat} {o : Oper} (hk : ops[k]? = some o) (he : isEff P o = false) {b : Nat} (hb : b < (st k).h.next) :
    (st (k + 1)).h.get b = (st k).h.get b := by
  rcases (ht.step hk).1 with ⟨_, _, h⟩ | ⟨_, _, h⟩
  · cases h with
    | T _ h _ => rw [h]
    | R _ h _ => rw [h]
    | N _ _ h _ => rw [h, Hp.get_push, if_neg (by omega)]
    | E h _ _ => rw [he] at h; cases h
  · rw [h]

/-- A block that is there stays as long as only what is quiet, or keeps it, comes. -/
theorem Trace.stays (ht : Trace P ops st val) {b : Nat} {i : Nat} : ∀ j, i ≤ j → j ≤ ops.size → b < (st i).h.next →
    (∀ k o, i ≤ k → k < j → ops[k]? = some o → isEff P o = true → (st (k + 1)).h.get b = (st k).h.get b) → (st j).h.get b = (st i).h.get b := by
  intro j
  induction j with
  | zero => intro h _ _ _; have : i = 0 := by omega
            subst this; rfl
  | succ j ih =>
    intro h hj hb hk
    by_cases e : i = j + 1
    · subst e; rfl
    · have ih := ih (by omega) (by omega) hb (fun k o h1 h2 h3 h4 => hk k o h1 (by omega) h3 h4)
      rw [← ih]
      have ho := Array.getElem?_eq_getElem (xs := ops) (i := j) (by omega)
      cases he : isEff P ops[j] with
      | true => exact hk j _ (by omega) (by omega) ho he
      | false => exact ht.quiet ho he (Nat.lt_of_lt_of_le hb (ht.next (by omega) (by omega)))

/-- The same where it may go. -/
theorem Trace.goes (ht : Trace P ops st val) {b : Nat} {i : Nat} : ∀ j, i ≤ j → j ≤ ops.size → b < (st i).h.next →
    (∀ k o, i ≤ k → k < j → ops[k]? = some o → isEff P o = true → (st (k + 1)).h.get b = (st k).h.get b ∨ (st (k + 1)).h.get b = none) → (st j).h.get b = (st i).h.get b ∨ (st j).h.get b = none := by
  intro j
  induction j with
  | zero => intro h _ _ _; have : i = 0 := by omega
            subst this; exact .inl rfl
  | succ j ih =>
    intro h hj hb hk
    by_cases e : i = j + 1
    · subst e; exact .inl rfl
    · have ih := ih (by omega) (by omega) hb (fun k o h1 h2 h3 h4 => hk k o h1 (by omega) h3 h4)
      have ho := Array.getElem?_eq_getElem (xs := ops) (i := j) (by omega)
      have hstep : (st (j + 1)).h.get b = (st j).h.get b ∨ (st (j + 1)).h.get b = none := by
        cases he : isEff P ops[j] with
        | true => exact hk j _ (by omega) (by omega) ho he
        | false => exact .inl (ht.quiet ho he (Nat.lt_of_lt_of_le hb (ht.next (by omega) (by omega))))
      rcases hstep with e1 | e1
      · rw [e1]; exact ih
      · exact .inr e1

/-- The slots in the text's order. -/
theorem Trace.tmps (ht : Trace P ops st val) : ∀ k, k ≤ ops.size → (st k).tmps = tmL ops (st 0).tmps val (fun _ => true) k
  | 0, _ => rfl
  | k + 1, hk => by
    have ho := Array.getElem?_eq_getElem (xs := ops) (i := k) (by omega)
    rw [(ht.step ho).2]
    have ih := ht.tmps k (by omega)
    unfold tmL St.put
    rw [if_pos rfl, ho, ← ih]
    rfl

/-- Places, blocks: every effect ahead of the place has been done, or came before the block was there; every effect that has been done stands ahead of it. -/
def At (P : Program) (ops : Array Oper) (st : Nat → St) (L : Nat → Bool) (x b : Nat) : Prop :=
  (∀ j o, ops[j]? = some o → isEff P o = true → L j = true → j < x) ∧
  (∀ j o, ops[j]? = some o → isEff P o = true → j < x → L j = true ∨ (st (j + 1)).h.next ≤ b)

/-- In the middle of a region. -/
structure Inv (P : Program) (ops : Array Oper) (st : Nat → St) (val : Nat → Value) (μ0 : Mu) (base : Nat) (w0 : World) (L : Nat → Bool) (μ : Mu) (a : Act) (w : World) (g : Gm) : Prop where
  down : ∀ j o e, L j = true → ops[j]? = some o → e ∈ o.after → Region.binds .any e = true → L e.on = true
  tmps : TR μ (tmL ops (st 0).tmps val L ops.size) a.tmps
  defers : a.defers = []
  sim : Sim μ0 base (st 0).h.get w0 μ g w
  dom : ∀ b, μ b ≠ μ0 b → ∃ i, i < ops.size ∧ L i = true ∧ (st i).h.next ≤ b ∧ b < (st (i + 1)).h.next
  H : ∀ b p x blk, μ b = some p → x ≤ ops.size → At P ops st L x b → (st x).h.get b = some blk → g b = some blk
  K : ∀ i j o, i < j → L i = false → ops[j]? = some o → isEff P o = true → L j = true → ∀ b, (st i).h.next ≤ b → b < (st (i + 1)).h.next → (st (j + 1)).h.get b = (st j).h.get b ∨ (st (j + 1)).h.get b = none
  K0 : ∀ j o, ops[j]? = some o → isEff P o = true → L j = true → ∀ b, b < (st 0).h.next → μ0 b = none → (st (j + 1)).h.get b = (st j).h.get b ∨ (st (j + 1)).h.get b = none

theorem Sim.less {μ μ' : Mu} {base : Nat} {g g' g'' : Gm} {w w' : World} (h : Sim μ base g w μ' g' w') (hl : ∀ b p x, μ' b = some p → g'' b = some x → g' b = some x) : Sim μ base g w μ' g'' w' :=
  ⟨h.le, h.rel.less hl, h.fr, fun b p x hb hx => h.own b p x hb (hl b p x hb hx), h.fz⟩

/-- A step of a part of the heap is a step of the heap. -/
theorem Sim.frame {μ μ' : Mu} {base : Nat} {g : Gm} {h h' : Hp} {w w' : World} (hr : Rel μ base g w) (hs : Sim μ base h.get w μ' h'.get w') (hsub : ∀ b p x, μ b = some p → h.get b = some x → g b = some x)
    (hn : h.next ≤ h'.next) (hd : ∀ b, μ' b ≠ μ b → h.next ≤ b ∧ b < h'.next) : Sim μ base g w μ' (fun b => if b < h'.next then h'.get b else g b) w' := by
  have old : ∀ b, h'.next ≤ b → μ' b = μ b := fun b hb => by
    by_cases e : μ' b = μ b
    · exact e
    · have := hd b e; omega
  -- a block of the frame lies in no block of the part
  have apart : ∀ b p x b' p' x', h'.next ≤ b → μ b = some p → g b = some x → μ' b' = some p' → h'.get b' = some x' → (ownB x = true ∨ ownB x' = true) → p.c ≠ p'.c := by
    intro b p x b' p' x' hb hp hx hp' hx' ho
    rcases hs.own b' p' x' hp' hx' with h1 | ⟨b0, p0, x0, h1, h2, h3, h4⟩
    · have := (hr.blk b p x hp hx).lt; omega
    · have hb0 : b0 < h.next := Hp.lt_of_get h2
      have hne : b ≠ b0 := by omega
      rw [← h4]
      rcases ho with ho | ho
      · exact hr.inj b b0 p p0 x x0 hp h1 hx (hsub _ _ _ h1 h2) hne ho
      · exact fun e => hr.inj b0 b p0 p x0 x h1 hp (hsub _ _ _ h1 h2) hx (fun e => hne e.symm) (h3 ho) e.symm
  refine ⟨hs.le, ⟨hs.rel.size, fun b p x hp hx => ?_, fun b b' p p' x x' hp hp' hx hx' hne ho => ?_, fun c i a hc => ⟨(hs.rel.frz c i a hc).1, fun b p x hp hx ho hcc => ?_⟩⟩, ⟨hs.fr.os, hs.fr.tape, hs.fr.output, hs.fr.size, fun c hc hno => ?_⟩, fun b p x hp hx => ?_, fun c i a hc => ?_⟩
  · split at hx
    · exact hs.rel.blk b p x hp hx
    · rename_i hlt
      have hp0 := hp
      rw [old b (by omega)] at hp0
      have hb := hr.blk b p x hp0 hx
      refine hb.keep hs.le (hs.fr.block p.c hb.lt fun b2 p2 x2 h1 h2 h3 => ?_)
      have : b2 < h.next := Hp.lt_of_get h2
      exact hr.inj b2 b p2 p x2 x h1 hp0 (hsub _ _ _ h1 h2) hx (by omega) h3
  · split at hx
    · split at hx'
      · exact hs.rel.inj b b' p p' x x' hp hp' hx hx' hne ho
      · rename_i h1 h2
        rw [old b' (by omega)] at hp'
        exact fun e => apart b' p' x' b p x (by omega) hp' hx' hp hx (.inr ho) e.symm
    · rename_i h1
      rw [old b (by omega)] at hp
      split at hx'
      · exact apart b p x b' p' x' (by omega) hp hx hp' hx' (.inl ho)
      · rw [old b' (by omega)] at hp'
        exact hr.inj b b' p p' x x' hp hp' hx hx' hne ho
  · split at hx
    · exact (hs.rel.frz c i a hc).2 b p x hp hx ho hcc
    · rw [old b (by omega)] at hp
      rcases hs.fz c i a hc with h1 | h1 | ⟨b0, p0, x0, h1, h2, _, h3⟩
      · exact (hr.frz c i a h1).2 b p x hp hx ho hcc
      · have := (hr.blk b p x hp hx).lt; omega
      · have : b0 < h.next := Hp.lt_of_get h2
        exact absurd (hcc.trans h3.symm) (hr.inj b b0 p p0 x x0 hp h1 hx (hsub _ _ _ h1 h2) (by omega) ho)
  · exact hs.fr.block c hc fun b p x h1 h2 h3 => hno b p x h1 (hsub _ _ _ h1 h2) h3
  · split at hx
    · rcases hs.own b p x hp hx with h1 | ⟨b0, p0, x0, h1, h2, h3, h4⟩
      · exact .inl h1
      · exact .inr ⟨b0, p0, x0, h1, hsub _ _ _ h1 h2, h3, h4⟩
    · rw [old b (by omega)] at hp
      exact .inr ⟨b, p, x, hp, hx, id, rfl⟩
  · rcases hs.fz c i a hc with h1 | h1 | ⟨b0, p0, x0, h1, h2, ho, h3⟩
    · exact .inl h1
    · exact .inr (.inl h1)
    · exact .inr (.inr ⟨b0, p0, x0, h1, hsub _ _ _ h1 h2, ho, h3⟩)

variable {μ0 : Mu} {base : Nat} {w0 : World} {L : Nat → Bool} {μ : Mu} {a : Act} {w : World} {g : Gm}

/-- Whatever comes before an operation that may come next has been done. -/
theorem Inv.preds (hro : ROk ops) (inv : Inv P ops st val μ0 base w0 L μ a w g) : ∀ (n : Nat) {i j : Nat} {o : Oper}, j < n → ops[j]? = some o → (∀ e ∈ o.after, Region.binds .any e = true → L e.on = true) →
    ordered (Region.before ops) i j = true → L i = true ∧ i < j := by
  intro n
  induction n with
  | zero => intro i j o h; omega
  | succ n ih =>
    intro i j o hn hj hready hord
    obtain ⟨e, he, hb, h1⟩ := ordered_edge hj (fun e he hb => hro.edge hj he hb) hord
    have hlt := hro.edge hj he hb
    rcases h1 with rfl | h1
    · exact ⟨hready e he hb, hlt⟩
    · have hjn := (Array.getElem?_eq_some_iff.1 hj).1
      have ho := Array.getElem?_eq_getElem (xs := ops) (i := e.on) (by omega)
      have hL := hready e he hb
      obtain ⟨h2, h3⟩ := ih (by omega) ho (fun e' he' hb' => inv.down e.on _ e' hL ho he' hb') h1
      exact ⟨h2, by omega⟩

theorem Inv.preds' (hro : ROk ops) (inv : Inv P ops st val μ0 base w0 L μ a w g) {i j : Nat} {o : Oper} (hj : ops[j]? = some o) (hL : L j = true) (hord : ordered (Region.before ops) i j = true) : L i = true ∧ i < j :=
  inv.preds hro (j + 1) (Nat.lt_succ_self j) hj (fun e he hb => inv.down j o e hL hj he hb) hord

/-- What an operation reads of its slots. -/
theorem Inv.slot (hro : ROk ops) (ht : Trace P ops st val) (inv : Inv P ops st val μ0 base w0 L μ a w g) {i : Nat} {o : Oper} (hi : ops[i]? = some o) (hL : L i = false)
    (hready : ∀ e ∈ o.after, Region.binds .any e = true → L e.on = true) {t : Tmp} (hn : t ∈ opNames o) : (tmL ops (st 0).tmps val L ops.size)[t]? = (st i).tmps[t]? := by
  have hil := (Array.getElem?_eq_some_iff.1 hi).1
  rw [ht.tmps i (by omega)]
  refine tmL_get ops (st 0).tmps val t ops.size i (fun k hk hd hLk => ?_) (fun k hk hd _ => ?_)
  · have hok := Array.getElem?_eq_getElem (xs := ops) hk
    rw [hok] at hd
    rcases temps_spec hro hok hi hd hn with e | h
    · subst e; rw [hL] at hLk; cases hLk
    · refine ⟨?_, rfl⟩
      rcases Nat.lt_or_ge k i with h1 | h1
      · exact h1
      · have hki : k ≠ i := fun e => by subst e; rw [hL] at hLk; cases hLk
        rw [Nat.min_eq_right (by omega), Nat.max_eq_left (by omega)] at h
        have := (inv.preds' hro hok hLk h).1
        rw [hL] at this; cases this
  · have hok := Array.getElem?_eq_getElem (xs := ops) (i := k) (by omega)
    rw [hok] at hd
    refine ⟨by omega, ?_⟩
    rcases temps_spec hro hok hi hd hn with e | h
    · omega
    · rw [Nat.min_eq_left (by omega), Nat.max_eq_right (by omega)] at h
      exact (inv.preds hro (i + 1) (Nat.lt_succ_self i) hi hready h).1

theorem getD_of {l l' : List Value} {t : Nat} (h : l[t]? = l'[t]?) : l.getD t Go.undef = l'.getD t Go.undef := by
  rw [List.getD_eq_getElem?_getD, List.getD_eq_getElem?_getD, h]

theorem Inv.operands (hro : ROk ops) (ht : Trace P ops st val) (inv : Inv P ops st val μ0 base w0 L μ a w g) {i : Nat} {o : Oper} (hi : ops[i]? = some o) (hL : L i = false)
    (hready : ∀ e ∈ o.after, Region.binds .any e = true → L e.on = true) (hok : o.op.operands.toList.all okOperand = true) : OpR μ (evA (st i).tmps) a.eval o.op.operands.toList := by
  intro x hx
  have h1 := eval_rel inv.tmps (List.all_eq_true.1 hok x hx)
  have h2 : evA (st i).tmps x = evA (tmL ops (st 0).tmps val L ops.size) x := by
    cases x with
    | tmp t =>
      have hn : t ∈ opNames o := by
        unfold opNames
        rw [List.mem_append]
        exact .inr (List.mem_filterMap.2 ⟨.tmp t, hx, rfl⟩)
      exact (getD_of (inv.slot hro ht hi hL hready hn)).symm
    | _ => rfl
  rw [h2]; exact h1

theorem Inv.wanted (hro : ROk ops) (hg : guardsOk ops = true) (ht : Trace P ops st val) (inv : Inv P ops st val μ0 base w0 L μ a w g) {i : Nat} {o : Oper} (hi : ops[i]? = some o)
    (hready : ∀ e ∈ o.after, Region.binds .any e = true → L e.on = true) : Region.wanted o (yielded ops a.tmps) = wantedA ops o (st i).tmps := by
  have hlive := ht.live hi
  have hsame : ∀ q want, o.guard = some (q, want) → ((ops[q]?).bind (·.dst)).bind ((tmL ops (st 0).tmps val L ops.size)[·]?) = ((ops[q]?).bind (·.dst)).bind ((st i).tmps[·]?) := by
    intro q want hgu
    have hil := (Array.getElem?_eq_some_iff.1 hi).1
    obtain ⟨e, he, rfl, hb⟩ := hro.guard hi hgu
    have hlt := hro.edge hi he hb
    have hLj := hready e he hb
    cases hd : (ops[e.on]?).bind (·.dst) with
    | none => rfl
    | some t =>
      have huniq : ∀ k, k < ops.size → (ops[k]?).bind (·.dst) = some t → k = e.on := by
        intro k hk hdk
        unfold guardsOk at hg
        have h1 := List.all_eq_true.1 hg o (Array.mem_toList_iff.2 (Array.mem_of_getElem? hi))
        rw [hgu] at h1
        simp only at h1
        have h2 := List.all_eq_true.1 h1 k (List.mem_range.2 hk)
        rw [hdk, hd] at h2
        simpa using h2
      have : (tmL ops (st 0).tmps val L ops.size)[t]? = (st i).tmps[t]? := by
        rw [ht.tmps i (by omega)]
        refine tmL_get ops (st 0).tmps val t ops.size i (fun k hk hdk hLk => ?_) (fun k hk hdk _ => ?_)
        · have := huniq k hk hdk; subst this; exact ⟨hlt, rfl⟩
        · have := huniq k (by omega) hdk; subst this; exact ⟨by omega, hLj⟩
      simp only [Option.bind_some, this]
  have hl2 : liveG ops o (tmL ops (st 0).tmps val L ops.size) = true := by
    unfold liveG at hlive ⊢
    cases hgu : o.guard with
    | none => rfl
    | some q =>
      obtain ⟨j, want⟩ := q
      rw [hgu] at hlive
      simp only at hlive ⊢
      rw [hsame j want hgu]; exact hlive
  rw [wanted_rel inv.tmps ops o hl2]
  unfold wantedA
  cases hgu : o.guard with
  | none => rfl
  | some q =>
    obtain ⟨j, want⟩ := q
    have hyi : yieldedA ops (tmL ops (st 0).tmps val L ops.size) j = yieldedA ops (st i).tmps j := by
      unfold yieldedA
      rw [hsame j want hgu]
    simp only [hyi]

theorem Inv.noLater (hro : ROk ops) (hchain : chained (Region.before ops) (effs P ops) = true) (inv : Inv P ops st val μ0 base w0 L μ a w g) {i j : Nat} {o o' : Oper} (hi : ops[i]? = some o) (hL : L i = false)
    (hei : isEff P o = true) (hj : ops[j]? = some o') (hej : isEff P o' = true) (hij : i < j) : L j = false := by
  cases h : L j with
  | false => rfl
  | true =>
    have hord := effs_ordered hchain hij ((mem_effs hi).2 hei) ((mem_effs hj).2 hej)
    have := (inv.preds' hro hj h hord).1
    rw [hL] at this; cases this
theorem Inv.earlier (hro : ROk ops) (hchain : chained (Region.before ops) (effs P ops) = true) (inv : Inv P ops st val μ0 base w0 L μ a w g) {i j : Nat} {o o' : Oper} (hi : ops[i]? = some o)
    (hready : ∀ e ∈ o.after, Region.binds .any e = true → L e.on = true) (hei : isEff P o = true) (hj : ops[j]? = some o') (hej : isEff P o' = true) (hij : j < i) : L j = true :=
  (inv.preds hro (i + 1) (Nat.lt_succ_self i) hi hready (effs_ordered hchain hij ((mem_effs hj).2 hej) ((mem_effs hi).2 hei))).1

/-- Ahead of an effect that may come next. -/
theorem Inv.atEff (hro : ROk ops) (hchain : chained (Region.before ops) (effs P ops) = true) (inv : Inv P ops st val μ0 base w0 L μ a w g) {i : Nat} {o : Oper} (hi : ops[i]? = some o) (hL : L i = false)
    (hready : ∀ e ∈ o.after, Region.binds .any e = true → L e.on = true) (hei : isEff P o = true) (b : Nat) : At P ops st L i b := by
  refine ⟨fun j o' hj he hLj => ?_, fun j o' hj he hji => .inl (inv.earlier hro hchain hi hready hei hj he hji)⟩
  rcases Nat.lt_or_ge j i with h | h
  · exact h
  · rcases Nat.eq_or_lt_of_le h with e | h
    · subst e; rw [hL] at hLj; cases hLj
    · rw [inv.noLater hro hchain hi hL hei hj he h] at hLj; cases hLj

/-- Behind an effect that has been done last, up to the next one, a block is what it was behind the effect. -/
theorem Inv.behind (hro : ROk ops) (ht : Trace P ops st val) (hchain : chained (Region.before ops) (effs P ops) = true) (inv : Inv P ops st val μ0 base w0 L μ a w g) {i : Nat} {o : Oper}
    (hi : ops[i]? = some o) (hL : L i = false) (hei : isEff P o = true) {L' : Nat → Bool} (hL' : ∀ k, L' k = (L k || k == i)) {x b : Nat} (hx : x ≤ ops.size) (hat : At P ops st L' x b) (hb : b < (st (i + 1)).h.next) :
    i < x ∧ (st x).h.get b = (st (i + 1)).h.get b := by
  have hix : i < x := hat.1 i o hi hei (by rw [hL']; simp)
  refine ⟨hix, ht.stays x (by omega) hx hb fun k o' h1 h2 h3 h4 => ?_⟩
  rcases hat.2 k o' h3 h4 h2 with h5 | h5
  · rw [hL'] at h5
    simp only [Bool.or_eq_true, beq_iff_eq] at h5
    rcases h5 with h5 | h5
    · rw [inv.noLater hro hchain hi hL hei h3 h4 (by omega)] at h5; cases h5
    · omega
  · have hkl := (Array.getElem?_eq_some_iff.1 h3).1
    have := ht.next (i := i + 1) (j := k + 1) (by omega) (by omega)
    omega

/-- An operation has been done. -/
theorem Inv.put (hro : ROk ops) (inv : Inv P ops st val μ0 base w0 L μ a w g) {i : Nat} {o : Oper} (hi : ops[i]? = some o) (hL : L i = false) {L' : Nat → Bool} (hL' : ∀ k, L' k = (L k || k == i))
    {μ' : Mu} (hle : Mu.le μ μ') {v' : Value} (hv : VR μ' (val i) v') : TR μ' (tmL ops (st 0).tmps val L' ops.size) (a.put o.dst v').tmps := by
  have hil := (Array.getElem?_eq_some_iff.1 hi).1
  rw [tmL_upd ops (st 0).tmps val hil hi hL hL' (fun k d hk hkn hLk hd hdk => ?_)]
  · cases hd : o.dst with
    | none => exact inv.tmps.mono hle
    | some d => exact (inv.tmps.mono hle).set d hv
  · have hok := Array.getElem?_eq_getElem (xs := ops) hkn
    rw [hok] at hdk
    have hn : d ∈ opNames ops[k] := by
      unfold opNames
      simp only [Option.bind_some] at hdk
      rw [hdk]; simp
    rcases temps_spec hro hi hok hd hn with e | h
    · omega
    · rw [Nat.min_eq_left (by omega), Nat.max_eq_right (by omega)] at h
      have := (inv.preds' hro hok hLk h).1
      rw [hL] at this; cases this

theorem down_upd (inv : Inv P ops st val μ0 base w0 L μ a w g) {i : Nat} {o : Oper} (hi : ops[i]? = some o) (hready : ∀ e ∈ o.after, Region.binds .any e = true → L e.on = true)
    {L' : Nat → Bool} (hL' : ∀ k, L' k = (L k || k == i)) : ∀ j o e, L' j = true → ops[j]? = some o → e ∈ o.after → Region.binds .any e = true → L' e.on = true := by
  intro j o' e hj ho he hb
  rw [hL'] at hj ⊢
  simp only [Bool.or_eq_true, beq_iff_eq] at hj ⊢
  rcases hj with hj | hj
  · exact .inl (inv.down j o' e hj ho he hb)
  · subst hj
    rw [hi] at ho; simp at ho; subst ho
    exact .inl (hready e he hb)

/-- An operation that leaves memory alone, or is passed over. -/
theorem Inv.still (hro : ROk ops) (ht : Trace P ops st val) (inv : Inv P ops st val μ0 base w0 L μ a w g) {i : Nat} {o : Oper} (hi : ops[i]? = some o) (hL : L i = false)
    (hready : ∀ e ∈ o.after, Region.binds .any e = true → L e.on = true) (hsame : (st (i + 1)).h = (st i).h) (hchain : chained (Region.before ops) (effs P ops) = true)
    {L' : Nat → Bool} (hL' : ∀ k, L' k = (L k || k == i)) {v' : Value} (hv : VR μ (val i) v') : Inv P ops st val μ0 base w0 L' μ (a.put o.dst v') w g := by
  refine ⟨down_upd inv hi hready hL', inv.put hro hi hL hL' (Mu.le_refl μ) hv, by rw [put_defers]; exact inv.defers, inv.sim, fun b hb => ?_, fun b p x blk hp hx hat hget => ?_, ?_, ?_⟩
  · obtain ⟨k, h1, h2, h3⟩ := inv.dom b hb
    exact ⟨k, h1, by rw [hL', h2]; rfl, h3⟩
  · cases hei : isEff P o with
    | false =>
      refine inv.H b p x blk hp hx ⟨fun j o' hj he hLj => hat.1 j o' hj he (by rw [hL', hLj]; rfl), fun j o' hj he hjx => ?_⟩ hget
      rcases hat.2 j o' hj he hjx with h | h
      · rw [hL'] at h
        simp only [Bool.or_eq_true, beq_iff_eq] at h
        rcases h with h | rfl
        · exact .inl h
        · rw [hi] at hj; simp at hj; subst hj; rw [hei] at he; cases he
      · exact .inr h
    | true =>
      by_cases hb : b < (st (i + 1)).h.next
      · obtain ⟨hix, h2⟩ := inv.behind hro ht hchain hi hL hei hL' hx hat hb
        rw [h2, hsame] at hget
        exact inv.H b p i blk hp (by omega) (inv.atEff hro hchain hi hL hready hei b) hget
      · refine inv.H b p x blk hp hx ⟨fun j o' hj he hLj => hat.1 j o' hj he (by rw [hL', hLj]; rfl), fun j o' hj he hjx => ?_⟩ hget
        rcases hat.2 j o' hj he hjx with h | h
        · rw [hL'] at h
          simp only [Bool.or_eq_true, beq_iff_eq] at h
          rcases h with h | rfl
          · exact .inl h
          · exact .inr (by omega)
        · exact .inr h
  · intro k j o' hkj hLk ho he hLj b h1 h2
    rw [hL'] at hLk hLj
    simp only [Bool.or_eq_false_iff, Bool.or_eq_true, beq_iff_eq] at hLk hLj
    rcases hLj with hLj | rfl
    · exact inv.K k j o' hkj hLk.1 ho he hLj b h1 h2
    · rw [hsame]; exact .inl rfl
  · intro j o' ho he hLj b h1 h2
    rw [hL'] at hLj
    simp only [Bool.or_eq_true, beq_iff_eq] at hLj
    rcases hLj with hLj | rfl
    · exact inv.K0 j o' ho he hLj b h1 h2
    · rw [hsame]; exact .inl rfl

theorem Inv.rel (inv : Inv P ops st val μ0 base w0 L μ a w g) : Rel μ base g w := inv.sim.rel

/-- Numbers of an operation that has not been done are free. -/
theorem Inv.fresh (ht : Trace P ops st val) (hf : Fresh μ0 (st 0).h.next (st ops.size).h.next) (inv : Inv P ops st val μ0 base w0 L μ a w g) {i : Nat} (hi : i < ops.size) (hL : L i = false) :
    Fresh μ (st i).h.next (st (i + 1)).h.next := by
  intro b h1 h2
  have h3 := ht.next (i := 0) (j := i) (by omega) (by omega)
  have h4 := ht.next (i := i + 1) (j := ops.size) (by omega) (by omega)
  have h5 := hf b (by omega) (by omega)
  by_cases e : μ b = μ0 b
  · rw [e]; exact h5
  · obtain ⟨k, h6, h7, h8, h9⟩ := inv.dom b e
    exfalso
    rcases Nat.lt_trichotomy k i with h | h | h
    · have := ht.next (i := k + 1) (j := i) (by omega) (by omega); omega
    · subst h; rw [hL] at h7; cases h7
    · have := ht.next (i := i + 1) (j := k) (by omega) (by omega); omega

/-- An effect. -/
theorem Inv.effect (hro : ROk ops) (ht : Trace P ops st val) (hchain : chained (Region.before ops) (effs P ops) = true) (hf : Fresh μ0 (st 0).h.next (st ops.size).h.next)
    (inv : Inv P ops st val μ0 base w0 L μ a w g) {i : Nat} {o : Oper} (hi : ops[i]? = some o) (hL : L i = false) (hready : ∀ e ∈ o.after, Region.binds .any e = true → L e.on = true) (hei : isEff P o = true)
    {L' : Nat → Bool} (hL' : ∀ k, L' k = (L k || k == i)) {v' : Value} {w' : World} {μ' : Mu} (ho : Out μ base (st i).h w (val i) (st (i + 1)).h v' w' μ') :
    ∃ g', Inv P ops st val μ0 base w0 L' μ' (a.put o.dst v') w' g' := by
  have hil := (Array.getElem?_eq_some_iff.1 hi).1
  have hsub : ∀ b p x, μ b = some p → (st i).h.get b = some x → g b = some x := fun b p x hp hx => inv.H b p i x hp (by omega) (inv.atEff hro hchain hi hL hready hei b) hx
  have hfr := Sim.frame inv.rel ho.sim hsub ho.next ho.dom
  refine ⟨_, ⟨down_upd inv hi hready hL', inv.put hro hi hL hL' ho.sim.le ho.val, by rw [put_defers]; exact inv.defers, inv.sim.trans hfr, fun b hb => ?_, fun b p x blk hp hx hat hget => ?_, ?_, ?_⟩⟩
  · by_cases e : μ' b = μ b
    · rw [e] at hb
      obtain ⟨k, h1, h2, h3⟩ := inv.dom b hb
      exact ⟨k, h1, by rw [hL', h2]; rfl, h3⟩
    · exact ⟨i, hil, by rw [hL']; simp, ho.dom b e⟩
  · by_cases hb : b < (st (i + 1)).h.next
    · simp only [if_pos hb]
      obtain ⟨_, h2⟩ := inv.behind hro ht hchain hi hL hei hL' hx hat hb
      rw [← h2]; exact hget
    · simp only [if_neg hb]
      have hp' : μ b = some p := by
        by_cases e : μ' b = μ b
        · rw [← e]; exact hp
        · have := ho.dom b e; omega
      refine inv.H b p x blk hp' hx ⟨fun j o' hj he hLj => hat.1 j o' hj he (by rw [hL', hLj]; rfl), fun j o' hj he hjx => ?_⟩ hget
      rcases hat.2 j o' hj he hjx with h | h
      · rw [hL'] at h
        simp only [Bool.or_eq_true, beq_iff_eq] at h
        rcases h with h | rfl
        · exact .inl h
        · exact .inr (by omega)
      · exact .inr h
  · intro k j o' hkj hLk hoj he hLj b h1 h2
    rw [hL'] at hLk hLj
    simp only [Bool.or_eq_false_iff, Bool.or_eq_true, beq_iff_eq] at hLk hLj
    rcases hLj with hLj | rfl
    · exact inv.K k j o' hkj hLk.1 hoj he hLj b h1 h2
    · have h3 := ht.next (i := k + 1) (j := j) (by omega) (by omega)
      exact ho.keep b (by omega) (inv.fresh ht hf (by omega) hLk.1 b h1 h2)
  · intro j o' hoj he hLj b h1 h2
    rw [hL'] at hLj
    simp only [Bool.or_eq_true, beq_iff_eq] at hLj
    rcases hLj with hLj | rfl
    · exact inv.K0 j o' hoj he hLj b h1 h2
    · have h3 := ht.next (i := 0) (j := j) (by omega) (by omega)
      refine ho.keep b (by omega) ?_
      by_cases e : μ b = μ0 b
      · rw [e]; exact h2
      · obtain ⟨q, h4, h5, h6, h7⟩ := inv.dom b e
        have := ht.next (i := 0) (j := q) (by omega) (by omega)
        omega

/-- A block that is made. -/
theorem Inv.made (hro : ROk ops) (ht : Trace P ops st val)
    (inv : Inv P ops st val μ0 base w0 L μ a w g) {i : Nat} {o : Oper} (hi : ops[i]? = some o) (hL : L i = false) (hready : ∀ e ∈ o.after, Region.binds .any e = true → L e.on = true) (hei : isEff P o = false)
    {L' : Nat → Bool} (hL' : ∀ k, L' k = (L k || k == i)) {v' : Value} {w' : World} {p : Pl} {z : Nat → Nat → Option Value} {x0 : Blk} (hh : (st (i + 1)).h = (st i).h.push x0) (hb0 : μ (st i).h.next = none)
    (hv : VR (Mu.updz μ (st i).h.next p z) (val i) v') (hs : Sim μ base g w (Mu.updz μ (st i).h.next p z) (fun c => if c = (st i).h.next then some x0 else g c) w') :
    ∃ g', Inv P ops st val μ0 base w0 L' (Mu.updz μ (st i).h.next p z) (a.put o.dst v') w' g' := by
  have hil := (Array.getElem?_eq_some_iff.1 hi).1
  have hnx : (st (i + 1)).h.next = (st i).h.next + 1 := by rw [hh]; rfl
  have hat0 : ∀ x b, At P ops st L' x b → At P ops st L x b := by
    intro x b hat
    refine ⟨fun j o' hj he hLj => hat.1 j o' hj he (by rw [hL', hLj]; rfl), fun j o' hj he hjx => ?_⟩
    rcases hat.2 j o' hj he hjx with h | h
    · rw [hL'] at h
      simp only [Bool.or_eq_true, beq_iff_eq] at h
      rcases h with h | rfl
      · exact .inl h
      · rw [hi] at hj; simp at hj; subst hj; rw [hei] at he; cases he
    · exact .inr h
  refine ⟨_, ⟨down_upd inv hi hready hL', inv.put hro hi hL hL' hs.le hv, by rw [put_defers]; exact inv.defers, inv.sim.trans hs, fun b hb => ?_, fun b q x blk hp hx hat hget => ?_, ?_, ?_⟩⟩
  · by_cases e : b = (st i).h.next
    · exact ⟨i, hil, by rw [hL']; simp, by omega, by omega⟩
    · rw [Mu.updz_other e] at hb
      obtain ⟨k, h1, h2, h3⟩ := inv.dom b hb
      exact ⟨k, h1, by rw [hL', h2]; rfl, h3⟩
  · by_cases e : b = (st i).h.next
    · subst e
      simp only [if_true]
      have hlt := Hp.lt_of_get hget
      have hix : i < x := by
        rcases Nat.lt_or_ge i x with h | h
        · exact h
        · have := ht.next (i := x) (j := i) h (by omega); omega
      have hst := ht.goes (b := (st i).h.next) (i := i + 1) x (by omega) hx (by omega) (fun k o' h1 h2 h3 h4 => by
        rcases (hat0 x _ hat).2 k o' h3 h4 h2 with h5 | h5
        · exact inv.K i k o' (by omega) hL h3 h4 h5 _ (Nat.le_refl _) (by omega)
        · have := ht.next (i := i + 1) (j := k + 1) (by omega) (by omega); omega)
      rcases hst with hst | hst
      · rw [hst, hh, Hp.get_push, if_pos rfl] at hget
        exact hget
      · rw [hst] at hget; cases hget
    · simp only [if_neg e]
      rw [Mu.updz_other e] at hp
      exact inv.H b q x blk hp hx (hat0 x b hat) hget
  · intro k j o' hkj hLk hoj he hLj b h1 h2
    rw [hL'] at hLk hLj
    simp only [Bool.or_eq_false_iff, Bool.or_eq_true, beq_iff_eq] at hLk hLj
    rcases hLj with hLj | rfl
    · exact inv.K k j o' hkj hLk.1 hoj he hLj b h1 h2
    · rw [hi] at hoj; simp at hoj; subst hoj; rw [hei] at he; cases he
  · intro j o' hoj he hLj b h1 h2
    rw [hL'] at hLj
    simp only [Bool.or_eq_true, beq_iff_eq] at hLj
    rcases hLj with hLj | rfl
    · exact inv.K0 j o' hoj he hLj b h1 h2
    · rw [hi] at hoj; simp at hoj; subst hoj; rw [hei] at he; cases he
end
end Go.Abs
end
section
namespace Go.Abs
open Go

section
variable {P : Program} {ops : Array Oper} {st : Nat → St} {val : Nat → Value}
variable {μ0 : Mu} {base : Nat} {w0 : World} {L : Nat → Bool} {μ : Mu} {a : Act} {w : World} {g : Gm}

theorem ordered_lt (hro : ROk ops) : ∀ (n : Nat) {i j : Nat} {o : Oper}, j < n → ops[j]? = some o → ordered (Region.before ops) i j = true → i < j := by
  intro n
  induction n with
  | zero => intro i j o h; omega
  | succ n ih =>
    intro i j o hn hj hord
    obtain ⟨e, he, hb, h1⟩ := ordered_edge hj (fun e he hb => hro.edge hj he hb) hord
    have hlt := hro.edge hj he hb
    rcases h1 with rfl | h1
    · exact hlt
    · have hjn := (Array.getElem?_eq_some_iff.1 hj).1
      have := ih (by omega) (Array.getElem?_eq_getElem (xs := ops) (i := e.on) (by omega)) h1
      omega

theorem exists_max {p : Nat → Prop} : ∀ n, (∃ j, j < n ∧ p j) → ∃ j, j < n ∧ p j ∧ ∀ k, k < n → p k → k ≤ j := by
  intro n
  induction n with
  | zero => rintro ⟨j, h, _⟩; omega
  | succ n ih =>
    rintro ⟨j, hj, hp⟩
    by_cases h : p n
    · exact ⟨n, by omega, h, fun k hk _ => by omega⟩
    · have hjn : j ≠ n := fun e => h (e ▸ hp)
      obtain ⟨m, h1, h2, h3⟩ := ih ⟨j, by omega, hp⟩
      refine ⟨m, by omega, h2, fun k hk hpk => ?_⟩
      by_cases e : k = n
      · subst e; exact absurd hpk h
      · exact h3 k (by omega) hpk
theorem exists_min {p : Nat → Prop} : ∀ n, (∃ j, j < n ∧ p j) → ∃ j, j < n ∧ p j ∧ ∀ k, k < j → ¬ p k := by
  intro n
  induction n with
  | zero => rintro ⟨j, h, _⟩; omega
  | succ n ih =>
    rintro ⟨j, hj, hp⟩
    by_cases h : ∃ k, k < n ∧ p k
    · obtain ⟨m, h1, h2, h3⟩ := ih h
      exact ⟨m, by omega, h2, h3⟩
    · refine ⟨j, hj, hp, fun k hk hpk => h ⟨k, by omega, hpk⟩⟩

/-- A read finds what it found in the text's order. -/
theorem Inv.read (hro : ROk ops) (hchain : chained (Region.before ops) (effs P ops) = true)
    (inv : Inv P ops st val μ0 base w0 L μ a w g) {i : Nat} {o : Oper} (hi : ops[i]? = some o) (hL : L i = false) (hready : ∀ e ∈ o.after, Region.binds .any e = true → L e.on = true) (hei : isEff P o = false)
    (good : Nat → Prop) (hgood : good i) (hpairs : ∀ j o', ops[j]? = some o' → isEff P o' = true → unordered (Region.before ops) i j = true → good j ∧ good (j + 1)) :
    ∃ x, x ≤ ops.size ∧ good x ∧ Rel μ base (st x).h.get w := by
  have hil := (Array.getElem?_eq_some_iff.1 hi).1
  have fin : ∀ x, x ≤ ops.size → good x → (∀ j o', ops[j]? = some o' → isEff P o' = true → L j = true → j < x) → (∀ j o', ops[j]? = some o' → isEff P o' = true → j < x → L j = true) →
      ∃ x, x ≤ ops.size ∧ good x ∧ Rel μ base (st x).h.get w := fun x hx hg h1 h2 =>
    ⟨x, hx, hg, inv.rel.less fun b p y hp hy => inv.H b p x y hp hx ⟨h1, fun j o' a b c => .inl (h2 j o' a b c)⟩ hy⟩
  by_cases hB : ∃ j, j < ops.size ∧ (∃ o', ops[j]? = some o' ∧ isEff P o' = true ∧ L j = true ∧ i < j)
  · -- an effect that stands behind it has been done
    obtain ⟨j, hjl, ⟨o', hj, hej, hLj, hij⟩, hmax⟩ := exists_max _ hB
    have hun : unordered (Region.before ops) i j = true := by
      unfold unordered
      have h1 : ordered (Region.before ops) i j = false := by
        cases h : ordered (Region.before ops) i j with
        | false => rfl
        | true => have := (inv.preds' hro hj hLj h).1; rw [hL] at this; cases this
      have h2 : ordered (Region.before ops) j i = false := by
        cases h : ordered (Region.before ops) j i with
        | false => rfl
        | true => have := ordered_lt hro (i + 1) (Nat.lt_succ_self i) hi h; omega
      rw [h1, h2]; rfl
    refine fin (j + 1) (by omega) (hpairs j o' hj hej hun).2 (fun k ok hk hek hLk => ?_) (fun k ok hk hek hkj => ?_)
    · by_cases hik : i < k
      · have hkl := (Array.getElem?_eq_some_iff.1 hk).1
        have := hmax k hkl ⟨ok, hk, hek, hLk, hik⟩
        omega
      · omega
    · rcases Nat.lt_or_ge k j with h | h
      · exact (inv.preds' hro hj hLj (effs_ordered hchain h ((mem_effs hk).2 hek) ((mem_effs hj).2 hej))).1
      · have : k = j := by omega
        subst this; exact hLj
  · by_cases hC : ∃ j, j < ops.size ∧ (∃ o', ops[j]? = some o' ∧ isEff P o' = true ∧ L j = false ∧ j < i)
    · -- an effect that stands ahead of it has not been done
      obtain ⟨j, hjl, ⟨o', hj, hej, hLj, hji⟩, hmin⟩ := exists_min _ hC
      have hun : unordered (Region.before ops) i j = true := by
        unfold unordered
        have h1 : ordered (Region.before ops) i j = false := by
          cases h : ordered (Region.before ops) i j with
          | false => rfl
          | true => have := ordered_lt hro (j + 1) (Nat.lt_succ_self j) hj h; omega
        have h2 : ordered (Region.before ops) j i = false := by
          cases h : ordered (Region.before ops) j i with
          | false => rfl
          | true => have := (inv.preds hro (i + 1) (Nat.lt_succ_self i) hi hready h).1; rw [hLj] at this; cases this
        rw [h1, h2]; rfl
      refine fin j (by omega) (hpairs j o' hj hej hun).1 (fun k ok hk hek hLk => ?_) (fun k ok hk hek hkj => ?_)
      · rcases Nat.lt_or_ge k j with h | h
        · exact h
        · rcases Nat.eq_or_lt_of_le h with e | h
          · subst e; rw [hLj] at hLk; cases hLk
          · rw [inv.noLater hro hchain hj hLj hej hk hek h] at hLk; cases hLk
      · have hkl := (Array.getElem?_eq_some_iff.1 hk).1
        cases hLk : L k with
        | true => rfl
        | false => exact absurd ⟨ok, hk, hek, hLk, by omega⟩ (hmin k hkj)
    · refine fin i (by omega) hgood (fun k ok hk hek hLk => ?_) (fun k ok hk hek hki => ?_)
      · have hkl := (Array.getElem?_eq_some_iff.1 hk).1
        rcases Nat.lt_or_ge k i with h | h
        · exact h
        · rcases Nat.eq_or_lt_of_le h with e | h
          · subst e; rw [hi] at hk; simp at hk; subst hk; rw [hei] at hek; cases hek
          · exact absurd ⟨k, hkl, ok, hk, hek, hLk, h⟩ hB
      · have hkl := (Array.getElem?_eq_some_iff.1 hk).1
        cases hLk : L k with
        | true => rfl
        | false => exact absurd ⟨k, hkl, ok, hk, hek, hLk, hki⟩ hC

/-- All has been done. -/
theorem Inv.done (ht : Trace P ops st val) (inv : Inv P ops st val μ0 base w0 L μ a w g) (hall : ∀ k, k < ops.size → L k = true) :
    StOut μ0 base (st 0) w0 (st ops.size) a w μ := by
  have hat : ∀ b, At P ops st L ops.size b := fun b => ⟨fun j o hj _ _ => (Array.getElem?_eq_some_iff.1 hj).1, fun j o hj _ hlt => .inl (hall j hlt)⟩
  refine ⟨?_, inv.defers, inv.sim.less fun b p x hp hx => inv.H b p ops.size x hp (Nat.le_refl _) (hat b) hx, fun b hb => ?_, fun b hb hn => ?_⟩
  · have h1 := inv.tmps
    have h2 : tmL ops (st 0).tmps val L ops.size = (st ops.size).tmps := by
      rw [ht.tmps ops.size (Nat.le_refl _)]
      apply List.ext_getElem?
      intro t
      exact tmL_get ops (st 0).tmps val t _ _ (fun k hk _ _ => ⟨hk, rfl⟩) (fun k hk _ _ => ⟨hk, hall k hk⟩)
    rw [h2] at h1; exact h1
  · obtain ⟨i, h1, _, h2, h3⟩ := inv.dom b hb
    have h4 := ht.next (i := 0) (j := i) (by omega) (by omega)
    have h5 := ht.next (i := i + 1) (j := ops.size) (by omega) (by omega)
    omega
  · exact ht.goes ops.size (Nat.zero_le _) (Nat.le_refl _) hb fun k o _ hk ho he => inv.K0 k o ho he (hall k hk) b hb hn

/-- One operation that may come next. -/
theorem Inv.step (hro : ROk ops) (hg : guardsOk ops = true) (ht : Trace P ops st val) (hchain : chained (Region.before ops) (effs P ops) = true) (hf : Fresh μ0 (st 0).h.next (st ops.size).h.next)
    (hpairs : ∀ i j oi oj, ops[i]? = some oi → ops[j]? = some oj → kindOf P oi.op = .R → isEff P oj = true → unordered (Region.before ops) i j = true → wantedA ops oi (st i).tmps = true →
      SemR P (evA (st i).tmps) oi (st j).h (val i) ∧ SemR P (evA (st i).tmps) oi (st (j + 1)).h (val i))
    (inv : Inv P ops st val μ0 base w0 L μ a w g) {i : Nat} {o : Oper} (hi : ops[i]? = some o) (hL : L i = false) (hready : ∀ e ∈ o.after, Region.binds .any e = true → L e.on = true)
    {L' : Nat → Bool} (hL' : ∀ k, L' k = (L k || k == i)) {Q : Exit → Act → World → Prop} {K : Act → World → Prop} (hK : ∀ μ' a' w' g', Inv P ops st val μ0 base w0 L' μ' a' w' g' → K a' w') :
    wpOp P ops Q i K a w := by
  have hil := (Array.getElem?_eq_some_iff.1 hi).1
  unfold wpOp
  rw [hi]
  simp only
  rw [inv.wanted hro hg ht hi hready]
  rcases (ht.step hi).1 with ⟨hw, hok, hs⟩ | ⟨hw, hv, hh⟩
  · rw [if_pos hw]
    left
    have hr := inv.operands hro ht hi hL hready hok
    cases hs with
    | T hkind hh hs =>
      obtain ⟨v', h1, h2⟩ := hs w hr
      unfold Oper.wp
      rw [h1]
      exact hK _ _ _ _ (inv.still hro ht hi hL hready hh hchain hL' h2)
    | R hkind hh hs =>
      obtain ⟨x, hx, hgood, hrel⟩ := inv.read hro hchain hi hL hready (by unfold isEff; rw [hkind]) (fun x => SemR P (evA (st i).tmps) o (st x).h (val i)) hs
        (fun j o' hj hej hun => hpairs i j o o' hi hj hkind hej hun hw)
      obtain ⟨v', h1, h2⟩ := hgood hr hrel
      unfold Oper.wp
      rw [h1]
      exact hK _ _ _ _ (inv.still hro ht hi hL hready hh hchain hL' h2)
    | @N x0 f hkind hu hh hs =>
      have hnx : (st (i + 1)).h.next = (st i).h.next + 1 := by rw [hh]; rfl
      have hb0 : μ (st i).h.next = none := inv.fresh ht hf hil hL _ (Nat.le_refl _) (by omega)
      obtain ⟨v', w', p, z, h1, h2, h3⟩ := hs hr inv.rel hb0
      unfold Oper.wp
      rw [h1]
      obtain ⟨g', h4⟩ := inv.made hro ht hi hL hready (by unfold isEff; rw [hkind]) hL' hh hb0 (by rw [hu]; exact h2) h3
      exact hK _ _ _ _ h4
    | E hei hn hs =>
      exact hs hr (inv.rel.less fun b p x hp hx => inv.H b p i x hp (by omega) (inv.atEff hro hchain hi hL hready hei b) hx) (inv.fresh ht hf hil hL)
        fun v' w' μ' ho => by obtain ⟨g', h4⟩ := inv.effect hro ht hchain hf hi hL hready hei hL' ho; exact hK _ _ _ _ h4
  · rw [if_neg (by rw [hw]; simp)]
    exact hK _ _ _ _ (inv.still hro ht hi hL hready hh hchain hL' (by rw [hv]; exact .undef μ))

/-- IN WHATEVER ORDER. -/
theorem draw_any (hro : ROk ops) (hg : guardsOk ops = true) (ht : Trace P ops st val) (hchain : chained (Region.before ops) (effs P ops) = true) (hf : Fresh μ0 (st 0).h.next (st ops.size).h.next)
    (hpairs : ∀ i j oi oj, ops[i]? = some oi → ops[j]? = some oj → kindOf P oi.op = .R → isEff P oj = true → unordered (Region.before ops) i j = true → wantedA ops oi (st i).tmps = true →
      SemR P (evA (st i).tmps) oi (st j).h (val i) ∧ SemR P (evA (st i).tmps) oi (st (j + 1)).h (val i))
    {Q : Exit → Act → World → Prop} (hQ : ∀ μ' a' w', StOut μ0 base (st 0) w0 (st ops.size) a' w' μ' → Q .normal a' w') :
    ∀ (fuel : Nat) (listed : Array Bool) (todo : List Nat) (μ : Mu) (a : Act) (w : World) (g : Gm), listed.size = ops.size → (∀ k, k < ops.size → listed.getD k false = false → k ∈ todo) → todo.length ≤ fuel →
      Inv P ops st val μ0 base w0 (fun k => listed.getD k false) μ a w g → wpAny P .any ops Q fuel listed a w := by
  -- nothing is ready: all has been done
  have none_ready : ∀ (listed : Array Bool), listed.size = ops.size → Region.ready .any ops listed = [] → ∀ k, k < ops.size → listed.getD k false = true := by
    intro listed hsz hnil k
    induction k using Nat.strongRecOn with
    | _ k ih =>
      intro hk
      cases h : listed.getD k false with
      | true => rfl
      | false =>
        exfalso
        have hmem : k ∈ Region.ready .any ops listed := by
          rw [mem_ready]
          refine ⟨?_, ops[k], Array.getElem?_eq_getElem hk, fun e he hb => ih e.on (hro.edge (Array.getElem?_eq_getElem hk) he hb) (Nat.lt_trans (hro.edge (Array.getElem?_eq_getElem hk) he hb) hk)⟩
          have hlt : k < listed.size := by omega
          simp only [Array.getD_eq_getD_getElem?, Array.getElem?_eq_getElem hlt, Option.getD_some] at h ⊢
          exact h
        rw [hnil] at hmem; simp at hmem
  intro fuel
  induction fuel with
  | zero =>
    intro listed todo μ a w g hsz htodo hlen inv
    have hall : ∀ k, k < ops.size → listed.getD k false = true := by
      intro k hk
      cases h : listed.getD k false with
      | true => rfl
      | false =>
        have := htodo k hk h
        have h0 : todo = [] := List.eq_nil_of_length_eq_zero (by omega)
        rw [h0] at this; simp at this
    refine ⟨?_, hQ _ _ _ (inv.done ht hall)⟩
    rw [List.eq_nil_iff_forall_not_mem]
    intro k hk
    obtain ⟨h1, o, ho, _⟩ := mem_ready.1 hk
    have hkl := (Array.getElem?_eq_some_iff.1 ho).1
    have h2 := hall k hkl
    have hlt : k < listed.size := by omega
    simp only [Array.getD_eq_getD_getElem?, Array.getElem?_eq_getElem hlt, Option.getD_some] at h1 h2
    rw [h1] at h2; cases h2
  | succ fuel ih =>
    intro listed todo μ a w g hsz htodo hlen inv
    refine ⟨fun hnil => hQ _ _ _ (inv.done ht (none_ready listed hsz hnil)), fun i hi => ?_⟩
    obtain ⟨h1, o, ho, hedges⟩ := mem_ready.1 hi
    have hil := (Array.getElem?_eq_some_iff.1 ho).1
    have hlt : i < listed.size := by omega
    have hL : listed.getD i false = false := by
      simp only [Array.getD_eq_getD_getElem?, Array.getElem?_eq_getElem hlt, Option.getD_some] at h1 ⊢
      exact h1
    have hL' : ∀ k, (listed.setIfInBounds i true).getD k false = (listed.getD k false || k == i) := by
      intro k
      simp only [Array.getD_eq_getD_getElem?, Array.getElem?_setIfInBounds]
      by_cases e : i = k
      · subst e; simp [hlt]
      · have : (k == i) = false := by simp; exact fun h => e h.symm
        simp [e, this]
    refine inv.step hro hg ht hchain hf hpairs ho hL hedges (L' := fun k => (listed.setIfInBounds i true).getD k false) hL' fun μ' a' w' g' inv' => ?_
    have hmem := htodo i hil hL
    refine ih (listed.setIfInBounds i true) (todo.erase i) μ' a' w' g' (by simp [hsz]) (fun k hk hLk => ?_) (by rw [List.length_erase_of_mem hmem]; omega) inv'
    rw [hL'] at hLk
    simp only [Bool.or_eq_false_iff, beq_eq_false_iff_ne] at hLk
    exact (List.mem_erase_of_ne hLk.2).2 (htodo k hk hLk.1)
end

section
variable {P : Program}

/-- Only what is drawn has turned. -/
theorem Sim.drew {μ : Mu} {base : Nat} {g : Gm} {w : World} (hr : Rel μ base g w) : Sim μ base g w μ g { w with drawn := w.drawn + 1 } :=
  ⟨Mu.le_refl μ, ⟨hr.size, fun b p x hb hx => (hr.blk b p x hb hx).keep (Mu.le_refl μ) rfl, hr.inj, hr.frz⟩, ⟨rfl, rfl, rfl, Nat.le_refl _, fun _ _ _ => rfl⟩, fun b p x hb hx => .inr ⟨b, p, x, hb, hx, id, rfl⟩, fun _ _ _ h => .inl h⟩

/-- A REGION WHOSE ORDER IS OPEN, from a run in the text's order. -/
theorem draw_core (hm : P.follows .mixedOrders = true) {ops : Array Oper} (hro : ROk ops) {st : Nat → St} {val : Nat → Value} (hst : staticOk P ops = true) (ht : Trace P ops st val)
    (hpairs : ∀ i j oi oj, ops[i]? = some oi → ops[j]? = some oj → kindOf P oi.op = .R → isEff P oj = true → unordered (Region.before ops) i j = true → wantedA ops oi (st i).tmps = true →
      SemR P (evA (st i).tmps) oi (st j).h (val i) ∧ SemR P (evA (st i).tmps) oi (st (j + 1)).h (val i)) :
    (st 0).h.next ≤ (st ops.size).h.next ∧ ∀ {id : Nat} {Q : Exit → Act → World → Prop} {μ : Mu} {base : Nat} {a : Act} {w : World}, TR μ (st 0).tmps a.tmps → a.defers = [] →
      Rel μ base (st 0).h.get w → Fresh μ (st 0).h.next (st ops.size).h.next → (∀ a' w' μ', StOut μ base (st 0) w (st ops.size) a' w' μ' → Q .normal a' w') → (Code.region id ops true).wp P Q a w := by
  unfold staticOk at hst
  simp only [Bool.and_eq_true] at hst
  refine ⟨ht.next (Nat.zero_le _) (Nat.le_refl _), fun {id Q μ base a w} htm hd hrel hf hq => ?_⟩
  refine wp_region_any hm ?_
  refine draw_any (w0 := w) hro hst.1 ht hst.2 hf hpairs (fun μ' a' w' h => hq a' w' μ' h) ops.size _ (List.range ops.size) μ a _ (st 0).h.get (by simp) (fun k hk _ => by simpa using hk) (by simp) ?_
  have hrep : ∀ k, (Array.replicate ops.size false).getD k false = false := by
    intro k
    simp only [Array.getD_eq_getD_getElem?, Array.getElem?_replicate]
    split <;> rfl
  have hnone : tmL ops (st 0).tmps val (fun k => (Array.replicate ops.size false).getD k false) ops.size = (st 0).tmps := by
    have : ∀ m, tmL ops (st 0).tmps val (fun k => (Array.replicate ops.size false).getD k false) m = (st 0).tmps := by
      intro m
      induction m with
      | zero => rfl
      | succ m ih =>
        unfold tmL
        rw [hrep m, if_neg (by simp)]
        exact ih
    exact this _
  refine ⟨fun j o e h => ?_, by rw [hnone]; exact htm, hd, Sim.drew hrel, fun b hb => absurd rfl hb, fun b p x blk hpb hx hat hget => ?_, fun i j o _ _ _ _ hL => ?_, fun j o _ _ hL => ?_⟩
  · have h' : (Array.replicate ops.size false).getD j false = true := h
    rw [hrep j] at h'; cases h'
  · -- nothing has been done: no effect stands ahead of the place
    have hlt := Hp.lt_of_get hget
    have hb0 : b < (st 0).h.next := by
      rcases Nat.lt_or_ge b (st 0).h.next with h | h
      · exact h
      · have := hf b h (Nat.lt_of_lt_of_le hlt (ht.next hx (Nat.le_refl _)))
        rw [this] at hpb; cases hpb
    have := ht.stays x (Nat.zero_le _) hx hb0 (fun k o _ hkx ho he => by
      rcases hat.2 k o ho he hkx with h | h
      · have h' : (Array.replicate ops.size false).getD k false = true := h
        rw [hrep k] at h'; cases h'
      · have := ht.next (i := 0) (j := k + 1) (by omega) (by omega); omega)
    rw [this] at hget; exact hget
  · have h' : (Array.replicate ops.size false).getD j false = true := hL
    rw [hrep j] at h'; cases h'
  · have h' : (Array.replicate ops.size false).getD j false = true := hL
    rw [hrep j] at h'; cases h'

theorem draw_sound (hm : P.follows .mixedOrders = true) {chk : Chk} (hchk : ∀ a b, chk a b = true → a = b) {call : Caller} (hc : CallOk P call) {ops : Array Oper} (hro : ROk ops) {s s' : St}
    (e : runDraw chk P call ops s = some s') : s.h.next ≤ s'.h.next ∧ ∀ {id : Nat} {Q : Exit → Act → World → Prop} {μ : Mu} {base : Nat} {a : Act} {w : World}, TR μ s.tmps a.tmps → a.defers = [] →
      Rel μ base s.h.get w → Fresh μ s.h.next s'.h.next → (∀ a' w' μ', StOut μ base s w s' a' w' μ' → Q .normal a' w') → (Code.region id ops true).wp P Q a w := by
  unfold runDraw at e
  split at e
  · rename_i hst
    split at e
    · rename_i tr htr
      split at e
      · rename_i hp
        obtain ⟨vs, hrun⟩ := run_of hc htr
        obtain ⟨st, val, ht, hs0, htr', _, hD⟩ := trace_fun hrun
        have hs' : s' = st ops.size := by
          rw [htr' ops.size (Nat.le_refl _)] at e
          simp at e; exact e.symm
        subst hs'
        subst hs0
        refine draw_core hm hro hst ht ?_
        intro i j oi oj hi hj hk he hun hw
        have hmem : (i, j) ∈ drawPairs P ops := by
          unfold drawPairs
          rw [List.mem_flatMap]
          refine ⟨i, (mem_reads hi).2 (by unfold isRead; rw [hk]), ?_⟩
          rw [List.mem_map]
          exact ⟨j, List.mem_filter.2 ⟨(mem_effs hj).2 he, hun⟩, rfl⟩
        have h1 := List.all_eq_true.1 hp (i, j) hmem
        have hil := (Array.getElem?_eq_some_iff.1 hi).1
        have hjl := (Array.getElem?_eq_some_iff.1 hj).1
        unfold pairOk at h1
        simp only [hi, htr' i (by omega), htr' j (by omega), htr' (j + 1) (by omega), hw, Bool.not_true, Bool.false_or, Bool.and_eq_true] at h1
        have hval : stepR P (evA (st i).tmps) oi (st i).h = some (val i) := by
          have h2 := hD i oi hi hw
          unfold stepO at h2
          split at h2
          · rw [hk] at h2
            cases e2 : stepR P (evA (st i).tmps) oi (st i).h with
            | none => simp [e2] at h2
            | some u => simp [e2] at h2; rw [h2.1]
          · cases h2
        have fin : ∀ x, sameRead chk P oi (st i) (st x) = true → SemR P (evA (st i).tmps) oi (st x).h (val i) := by
          intro x hx
          unfold sameRead at hx
          rw [hval] at hx
          cases e2 : stepR P (evA (st i).tmps) oi (st x).h with
          | none => simp [e2] at hx
          | some u =>
            simp [e2] at hx
            rw [hchk _ _ hx]
            exact fun {μ base w ρ'} hr hrel => simR hk e2 hr hrel
        exact ⟨fin j h1.1, fin (j + 1) h1.2⟩
      · cases e
    · cases e
  · cases e
end
end Go.Abs
end
section
namespace Go.Abs
open Go

def exOf : Ex → Exit
  | .normal => .normal
  | .exit id => .exit id
  | .goto l => .goto l
  | .ret => .ret

section
variable {P : Program}

/-- A scope, and a jump to one of its labels, from which no further jump is made. -/
theorem wp_scope_fwd {c : Code} {Q : Exit → Act → World → Prop} {a : Act} {w : World}
    (h : c.wp P (fun e a w => match e with | .goto l => ∃ rest, findLabel c l = some rest ∧ rest.wp P (Exit.noGoto Q) a w | e => Q e a w) a w) : (Code.scope c).wp P Q a w := by
  intro b k cs
  obtain ⟨e, a₁, w₁, hq, harr⟩ := h b (.inScope c :: k) cs
  cases e with
  | normal => exact ⟨.normal, a₁, w₁, hq, .head step_scope (Steps.trans harr (.one step_inScope))⟩
  | exit id => exact ⟨.exit id, a₁, w₁, hq, fun k' hk => .head step_scope (harr k' (by simp [exitTo, hk]))⟩
  | goto l =>
    obtain ⟨rest, hf, hw⟩ := hq
    have hg : gotoIn l (.inScope c :: k) = some (.code rest :: .inScope c :: k) := by simp [gotoIn, hf]
    obtain ⟨e2, a2, w2, hq2, harr2⟩ := hw b (.inScope c :: k) cs
    have h1 := Steps.trans (Steps.one step_scope) (harr _ hg)
    cases e2 with
    | normal => exact ⟨.normal, a2, w2, hq2, Steps.trans h1 (Steps.trans harr2 (.one step_inScope))⟩
    | exit id => exact ⟨.exit id, a2, w2, hq2, fun k' hk => Steps.trans h1 (harr2 k' (by simp [exitTo, hk]))⟩
    | goto l' => exact hq2.elim
    | ret => exact ⟨_, a2, w2, hq2, .of_steps h1 harr2⟩
    | panic ch => exact ⟨_, a2, w2, hq2, .of_steps h1 harr2⟩
    | outgrown => exact ⟨_, a2, w2, hq2, .of_steps h1 harr2⟩
  | ret => exact ⟨_, a₁, w₁, hq, .of_steps (.one step_scope) harr⟩
  | panic ch => exact ⟨_, a₁, w₁, hq, .of_steps (.one step_scope) harr⟩
  | outgrown => exact ⟨_, a₁, w₁, hq, .of_steps (.one step_scope) harr⟩

/-- At the head of a loop's round. -/
def wpLoop (P : Program) (c : Code) (Q : Exit → Act → World → Prop) (a : Act) (w : World) : Prop :=
  ∀ (b : Frame) (k : List Item) (cs : List Frame), ∃ e a' w', Q e a' w' ∧ Arrives P (lone (b.at a (.code c :: .inLoop c :: k)) cs w) b k cs e a' w'
theorem wp_of_wpLoop {c : Code} {Q : Exit → Act → World → Prop} {a : Act} {w : World} (h : wpLoop P c Q a w) : (Code.loop c).wp P Q a w := by
  intro b k cs
  obtain ⟨e, a', w', hq, harr⟩ := h b k cs
  exact ⟨e, a', w', hq, .of_steps (.one step_loop) harr⟩
theorem wpLoop_round {c : Code} {Q : Exit → Act → World → Prop} {a : Act} {w : World} (h : c.wp P (Exit.then (wpLoop P c Q) Q) a w) : wpLoop P c Q a w := by
  intro b k cs
  obtain ⟨e, a₁, w₁, hq, harr⟩ := h b (.inLoop c :: k) cs
  cases e with
  | normal =>
    obtain ⟨e₂, a₂, w₂, hq₂, harr₂⟩ := hq b k cs
    exact ⟨e₂, a₂, w₂, hq₂, .of_steps (Steps.trans harr (.one step_inLoop)) harr₂⟩
  | exit id => exact ⟨_, a₁, w₁, hq, .pass (x := .inLoop c) rfl (fun _ _ => .inl (by simp)) harr⟩
  | goto l => exact ⟨_, a₁, w₁, hq, .pass (x := .inLoop c) rfl (fun _ _ => .inl (by simp)) harr⟩
  | ret => exact ⟨_, a₁, w₁, hq, .pass (x := .inLoop c) rfl (fun _ _ => .inl (by simp)) harr⟩
  | panic ch => exact ⟨_, a₁, w₁, hq, .pass (x := .inLoop c) rfl (fun _ _ => .inl (by simp)) harr⟩
  | outgrown => exact ⟨_, a₁, w₁, hq, .pass (x := .inLoop c) rfl (fun _ _ => .inl (by simp)) harr⟩

/-- All regions are in order. -/
def OkCode : Code → Prop
  | .region _ ops d => d = true → ROk ops
  | .seq a b => OkCode a ∧ OkCode b
  | .cond _ a b => OkCode a ∧ OkCode b
  | .block _ b => OkCode b
  | .loop b => OkCode b
  | .scope b => OkCode b
  | _ => True

theorem okCode_label : ∀ {c : Code} {l : Nat} {r : Code}, findLabel c l = some r → OkCode c → OkCode r
  | .seq a b, l, r, h, hc => by
    unfold findLabel at h
    split at h
    · rename_i rest hr
      simp only [Option.some.injEq] at h; subst h
      exact ⟨okCode_label hr hc.1, hc.2⟩
    · exact okCode_label h hc.2
  | .label l', l, r, h, _ => by
    unfold findLabel at h
    split at h
    · simp only [Option.some.injEq] at h; subst h; trivial
    · cases h
  | .skip, _, _, h, _ => by simp [findLabel] at h
  | .region .., _, _, h, _ => by simp [findLabel] at h
  | .cond .., _, _, h, _ => by simp [findLabel] at h
  | .block .., _, _, h, _ => by simp [findLabel] at h
  | .loop _, _, _, h, _ => by simp [findLabel] at h
  | .rangeFunc .., _, _, h, _ => by simp [findLabel] at h
  | .exit _, _, _, h, _ => by simp [findLabel] at h
  | .scope _, _, _, h, _ => by simp [findLabel] at h
  | .goto _, _, _, h, _ => by simp [findLabel] at h
  | .ret, _, _, h, _ => by simp [findLabel] at h
  | .refuse _, _, _, h, _ => by simp [findLabel] at h

/-- What the program owes: orders are open as followed; its regions are in order; no function is the one that counts goroutines. -/
structure ProgOk (P : Program) : Prop where
  mixed : P.follows .mixedOrders = true
  code : ∀ {f : FuncId} {fn : Func} {c : Code}, P.funcs[f]? = some fn → fn.body = some c → OkCode c
  name : ∀ {f : FuncId} {fn : Func}, P.funcs[f]? = some fn → fn.name ≠ "runtime.NumGoroutine"

variable {μ : Mu} {base : Nat} {w : World}

theorem resultA_run {s : St} {r : ResultVar} {v : Value} (h : resultA P s r = some v) {a : Act} (ht : TR μ s.tmps a.tmps) (hr : Rel μ base s.h.get w) :
    ∃ v', (match r with | .tmp t => pure (a.tmps.getD t undef) | .cell x t => do loadVar t (← asAddr (a.tmps.getD x undef)) : Sem Value).run P w = .ok v' w ∧ VR μ v v' := by
  unfold resultA at h
  cases r with
  | tmp t =>
    simp only [Option.some.injEq] at h; subst h
    exact ⟨_, rfl, ht.getD t⟩
  | cell x t =>
    simp only at h
    have hx := ht.getD x
    obtain ⟨v', h1, h2⟩ := loadA_run h hr hx
    refine ⟨v', ?_, h2⟩
    unfold loadA at h
    split at h
    · rename_i b o hp
      rw [hp] at hx
      obtain ⟨p, _, hv⟩ := hx.inv_ptr
      show (do loadVar t (← asAddr (a.tmps.getD x undef)) : Sem Value).run P w = _
      rw [hv] at h1 ⊢
      simpa [Instr.loadAt, Instr.sureAddr, asAddr] using h1
    · cases h

theorem resultsL_run {s : St} {a : Act} (ht : TR μ s.tmps a.tmps) (hr : Rel μ base s.h.get w) : ∀ {rs : List ResultVar} {vs : List Value}, resultsL P s rs = some vs →
    ∃ vs', (rs.mapM fun r => (match r with | .tmp t => pure (a.tmps.getD t undef) | .cell x t => do loadVar t (← asAddr (a.tmps.getD x undef)) : Sem Value)).run P w = .ok vs' w ∧ All2 (VR μ) vs vs'
  | [], vs, h => by simp only [resultsL, Option.some.injEq] at h; subst h; exact ⟨[], rfl, All2.nil⟩
  | r :: rs, vs, h => by
    unfold resultsL at h
    split at h
    · rename_i v l hv hl
      simp only [Option.some.injEq] at h; subst h
      obtain ⟨v', h1, h2⟩ := resultA_run hv ht hr
      obtain ⟨l', h3, h4⟩ := resultsL_run ht hr hl
      refine ⟨v' :: l', ?_, All2.cons h2 h4⟩
      rw [List.mapM_cons]
      simp only [Sem.run_bind, h1, Result.andThen_ok, h3, Sem.run_pure]
    · cases h

theorem resultsA_run {fn : Func} {s : St} {v : Value} (h : resultsA P fn s = some v) {a : Act} (ht : TR μ s.tmps a.tmps) (hr : Rel μ base s.h.get w) :
    ∃ v', (results fn a.tmps).run P w = .ok v' w ∧ VR μ v v' := by
  unfold resultsA at h
  have key : ∀ vs vs', resultsL P s fn.results.toList = some vs → All2 (VR μ) vs vs' →
      (fn.results.toList.mapM fun r => (match r with | .tmp t => pure (a.tmps.getD t undef) | .cell x t => do loadVar t (← asAddr (a.tmps.getD x undef)) : Sem Value)).run P w = .ok vs' w →
      (results fn a.tmps).run P w = .ok (if h : vs'.toArray.size = 1 then vs'.toArray[0] else .tuple vs'.toArray) w := by
    intro vs vs' _ _ hrun
    unfold results
    have hm : (fn.results.mapM fun r => (match r with | .tmp t => pure (a.tmps.getD t undef) | .cell x t => do loadVar t (← asAddr (a.tmps.getD x undef)) : Sem Value)).run P w = .ok vs'.toArray w := by
      rw [← Array.toArray_toList (xs := fn.results), List.mapM_toArray]
      simp only [Sem.run_map]
      rw [hrun]; rfl
    simp only [Sem.run_bind]
    erw [hm]
    rfl
  split at h
  · rename_i v0 hl
    simp only [Option.some.injEq] at h; subst h
    obtain ⟨vs', h1, h2⟩ := resultsL_run ht hr hl
    obtain ⟨v', l, rfl, h3, h4⟩ := h2.inv_cons
    have := h4.inv_nil; subst this
    exact ⟨v', by rw [key _ _ hl h2 h1]; simp, h3⟩
  · rename_i vs hne hl
    split at h
    · rename_i hnt
      simp only [Option.some.injEq] at h; subst h
      obtain ⟨vs', h1, h2⟩ := resultsL_run ht hr hl
      refine ⟨.tuple vs'.toArray, ?_, .tup ?_⟩
      · rw [key _ _ hl h2 h1]
        have hlen : vs'.toArray.size ≠ 1 := by
          intro e
          simp only [List.size_toArray] at e
          rw [← h2.1] at e
          obtain ⟨x, rfl⟩ := List.length_eq_one_iff.1 e
          exact hne x rfl
        rw [dif_neg hlen]
      · simp only
        exact h2.mono fun x y hx r => r.noTup (List.all_eq_true.1 hnt x hx)
    · cases h
  · cases h

/-- What is known of a function, said without its text. -/
def KnownOk (P : Program) (X : Known) : Prop := ∀ f g, X f = some g → (∀ {args h v h'}, g args h = some (v, h') → h.next ≤ h'.next ∧
  ∀ {μ : Mu} {base : Nat} {w : World} {args' : Array Value}, All2 (VR μ) args args'.toList → Rel μ base h.get w → Fresh μ h.next h'.next → Does P f args' w fun v' w' => ∃ μ', Out μ base h w v h' v' w' μ')

/-- Code that is sound. -/
def Sound (P : Program) (c : Code) (s : St) (ex : Ex) (s' : St) : Prop :=
  s.h.next ≤ s'.h.next ∧ ∀ {μ : Mu} {base : Nat} {a : Act} {w : World} {Q : Exit → Act → World → Prop}, TR μ s.tmps a.tmps → a.defers = [] → Rel μ base s.h.get w → Fresh μ s.h.next s'.h.next →
    (∀ a' w' μ', StOut μ base s w s' a' w' μ' → Q (exOf ex) a' w') → c.wp P Q a w

/-- A loop from the head of a round. -/
def SoundL (P : Program) (c : Code) (s : St) (ex : Ex) (s' : St) : Prop :=
  s.h.next ≤ s'.h.next ∧ ∀ {μ : Mu} {base : Nat} {a : Act} {w : World} {Q : Exit → Act → World → Prop}, TR μ s.tmps a.tmps → a.defers = [] → Rel μ base s.h.get w → Fresh μ s.h.next s'.h.next →
    (∀ a' w' μ', StOut μ base s w s' a' w' μ' → Q (exOf ex) a' w') → wpLoop P c Q a w

theorem callWith_ok (hP : ProgOk P) {X : Known} (hX : KnownOk P X) {rc : Code → St → Option (Ex × St)} (hrc : ∀ c s ex s', OkCode c → rc c s = some (ex, s') → Sound P c s ex s') : CallOk P (callWith P X rc) := by
  have body : ∀ {f : FuncId} {fn : Func} {c : Code} {args : List Value} {h : Hp} {v : Value} {h' : Hp}, P.funcs[f]? = some fn → fn.body = some c → (match rc c ⟨args ++ List.replicate (fn.ntmps - args.length) undef, h⟩ with
      | some (.normal, s) | some (.ret, s) => match resultsA P fn s with
        | some v => some (v, s.h)
        | none => none
      | _ => none) = some (v, h') → ∃ ex s', (ex = .normal ∨ ex = .ret) ∧ rc c ⟨args ++ List.replicate (fn.ntmps - args.length) undef, h⟩ = some (ex, s') ∧ resultsA P fn s' = some v ∧ s'.h = h' := by
    intro f fn c args h v h' _ _ e
    split at e
    · rename_i s' hr
      split at e
      · rename_i v0 hv; simp at e; obtain ⟨rfl, rfl⟩ := e; exact ⟨_, s', .inl rfl, hr, hv, rfl⟩
      · cases e
    · rename_i s' hr
      split at e
      · rename_i v0 hv; simp at e; obtain ⟨rfl, rfl⟩ := e; exact ⟨_, s', .inr rfl, hr, hv, rfl⟩
      · cases e
    · cases e
  refine ⟨fun {f args h v h'} e => ?_, fun {f args h v h'} e {μ base w args'} hl hrel hf => ?_⟩
  · unfold callWith at e
    split at e
    · rename_i g hg
      exact (hX f g hg e).1
    · split at e
      · cases e
      · rename_i fn hfn
        split at e
        · exact externA_next e
        · rename_i c hb
          obtain ⟨ex, s', _, h1, _, rfl⟩ := body hfn hb e
          exact (hrc c _ ex s' (hP.code hfn hb) h1).1
  · unfold callWith at e
    split at e
    · rename_i g hg
      exact (hX f g hg e).2 hl hrel hf
    · split at e
      · cases e
      · rename_i fn hfn
        split at e
        · rename_i hb
          obtain ⟨v', w', μ', h1, h2⟩ := externA_run e hl hrel (fun hlt => hf h.next (Nat.le_refl _) hlt) hfn hb
          exact .inl ⟨v', w', h1, μ', h2⟩
        · rename_i c hb
          obtain ⟨ex, s', hex, h1, hres, rfl⟩ := body hfn hb e
          refine .inr ⟨?_, ?_⟩
          · have hn := hP.name hfn
            simp [callFunc, hfn, hn, hb]
          · refine calls_of_wp hfn hb ?_
            have hs := hrc c _ ex s' (hP.code hfn hb) h1
            have htr : TR μ (args ++ List.replicate (fn.ntmps - args.length) undef) (args' ++ Array.replicate (fn.ntmps - args'.size) undef) := by
              unfold TR
              rw [Array.toList_append, Array.toList_replicate]
              have : args.length = args'.size := by rw [hl.1, Array.length_toList]
              rw [this]
              exact hl.append (All2.replicate _ (.undef μ))
            refine hs.2 htr rfl hrel hf fun a' w' μ' so => ?_
            obtain ⟨v', h2, h3⟩ := resultsA_run hres so.tmps so.sim.rel
            have hout : Out μ base h w v s'.h v' w' μ' := ⟨h3, so.sim, (hrc c _ ex s' (hP.code hfn hb) h1).1, so.dom, so.keep⟩
            rcases hex with rfl | rfl
            · exact ⟨so.defers, v', h2, v', rfl, μ', hout⟩
            · exact ⟨so.defers, v', h2, v', rfl, μ', hout⟩

theorem Sound.of_eq {c : Code} {s : St} {ex : Ex} (h : ∀ {Q : Exit → Act → World → Prop} {a : Act} {w : World}, Q (exOf ex) a w → c.wp P Q a w) : Sound P c s ex s :=
  ⟨Nat.le_refl _, fun {μ _ a w _} ht hd hrel _ hq => h (hq a w μ ⟨ht, hd, Sim.refl hrel, fun _ hb => absurd rfl hb, .refl μ _⟩)⟩

/-- THE EVALUATOR IS SOUND. -/
theorem run_sound (hP : ProgOk P) {X : Known} (hX : KnownOk P X) {chk : Chk} (hchk : ∀ a b, chk a b = true → a = b) : ∀ (n : Nat) (c : Code) (s : St) (ex : Ex) (s' : St), OkCode c → run chk P X n c s = some (ex, s') → Sound P c s ex s' := by
  suffices H : ∀ (n : Nat), (∀ (c : Code) (s : St) (ex : Ex) (s' : St), OkCode c → run chk P X n c s = some (ex, s') → Sound P c s ex s') ∧ (∀ (c : Code) (s : St) (ex : Ex) (s' : St), OkCode c → run chk P X n (.loop c) s = some (ex, s') → SoundL P c s ex s') from fun n => (H n).1
  intro n
  induction n with
  | zero => exact ⟨fun c s ex s' _ e => by simp [run] at e, fun c s ex s' _ e => by simp [run] at e⟩
  | succ n ihn =>
    obtain ⟨ih, ihl⟩ := ihn
    have hl : ∀ (c : Code) (s : St) (ex : Ex) (s' : St), OkCode c → run chk P X (n + 1) (.loop c) s = some (ex, s') → SoundL P c s ex s' := by
      intro b s ex s' hok e
      rw [run] at e
      split at e
      · rename_i s1 h1
        have h2 := ih b s .normal s1 hok h1
        have h3 := ihl b s1 ex s' hok e
        refine ⟨Nat.le_trans h2.1 h3.1, fun {μ base a w Q} ht hd hrel hf hq => wpLoop_round (h2.2 ht hd hrel (hf.left h3.1) fun a1 w1 μ1 so => ?_)⟩
        exact h3.2 so.tmps so.defers so.sim.rel (so.fresh hf h2.1) fun a2 w2 μ2 so2 => hq a2 w2 μ2 (so.trans so2 h2.1 h3.1)
      · rename_i hne
        have h1 := ih b s ex s' hok e
        refine ⟨h1.1, fun {μ base a w Q} ht hd hrel hf hq => wpLoop_round (h1.2 ht hd hrel hf fun a' w' μ' so => ?_)⟩
        have := hq a' w' μ' so
        cases ex <;> first | exact absurd e (hne _) | exact this
    refine ⟨?_, hl⟩
    intro c s ex s' hok e
    have hcall : CallOk P (callWith P X (run chk P X n)) := callWith_ok hP hX ih
    have seq2 : ∀ {c1 c2 c : Code} {s s1 s2 : St} {ex : Ex}, Sound P c1 s .normal s1 → Sound P c2 s1 ex s2 →
        (∀ {Q : Exit → Act → World → Prop} {a : Act} {w : World}, c1.wp P (fun e a w => match e with | .normal => c2.wp P Q a w | _ => False) a w → c.wp P Q a w) → Sound P c s ex s2 := by
      intro c1 c2 c s s1 s2 ex h1 h2 hw
      refine ⟨Nat.le_trans h1.1 h2.1, fun {μ base a w Q} ht hd hrel hf hq => hw ?_⟩
      refine h1.2 ht hd hrel (hf.left h2.1) fun a1 w1 μ1 so => ?_
      exact h2.2 so.tmps so.defers so.sim.rel (so.fresh hf h1.1) fun a2 w2 μ2 so2 => hq a2 w2 μ2 (so.trans so2 h1.1 h2.1)
    unfold run at e
    split at e
    · simp only [Option.some.injEq, Prod.mk.injEq] at e; obtain ⟨rfl, rfl⟩ := e; exact Sound.of_eq fun h => wp_skip h
    · simp only [Option.some.injEq, Prod.mk.injEq] at e; obtain ⟨rfl, rfl⟩ := e; exact Sound.of_eq fun h => wp_label h
    · simp only [Option.some.injEq, Prod.mk.injEq] at e; obtain ⟨rfl, rfl⟩ := e; exact Sound.of_eq fun h => wp_ret h
    · simp only [Option.some.injEq, Prod.mk.injEq] at e; obtain ⟨rfl, rfl⟩ := e; exact Sound.of_eq fun h => wp_exit h
    · simp only [Option.some.injEq, Prod.mk.injEq] at e; obtain ⟨rfl, rfl⟩ := e; exact Sound.of_eq fun h => wp_goto h
    · -- a region
      rename_i id ops draw
      split at e
      · rename_i hd
        subst hd
        split at e
        · rename_i s1 hr
          simp only [Option.some.injEq, Prod.mk.injEq] at e; obtain ⟨rfl, rfl⟩ := e
          obtain ⟨h1, h2⟩ := draw_sound hP.mixed hchk hcall (hok rfl) hr
          exact ⟨h1, fun {μ base a w Q} ht hd hrel hf hq => h2 ht hd hrel hf hq⟩
        · cases e
      · rename_i hd
        have hd' : draw = false := by simpa using hd
        subst hd'
        split at e
        · rename_i s1 hr
          simp only [Option.some.injEq, Prod.mk.injEq] at e; obtain ⟨rfl, rfl⟩ := e
          exact ⟨runOps_next hcall hr, fun {μ base a w Q} ht hd hrel hf hq => wp_region_list (ops_sound hcall hr ht hd hrel hf hq)⟩
        · cases e
    · -- one behind the other
      rename_i a b
      split at e
      · rename_i s1 h1
        exact seq2 (ih a s .normal s1 hok.1 h1) (ih b s1 ex s' hok.2 e) fun h => wp_seq (wp_mono h fun e a w q => by cases e <;> first | exact q | exact q.elim)
      · rename_i hne
        have h1 := ih a s ex s' hok.1 e
        have hx : ex ≠ .normal := fun hx => by subst hx; exact hne s' e
        refine ⟨h1.1, fun {μ base a1 w Q} ht hd hrel hf hq => wp_seq (h1.2 ht hd hrel hf fun a' w' μ' so => ?_)⟩
        have := hq a' w' μ' so
        cases ex <;> first | exact absurd rfl hx | exact this
    · -- a test
      rename_i c a b
      split at e
      · rename_i hop
        split at e
        · rename_i t hc
          have hb : evA s.tmps c = .bool t := by
            unfold condA at hc
            split at hc
            · rename_i b' hb'; simp at hc; subst hc; exact hb'
            · cases hc
          have h1 := ih (if t then a else b) s ex s' (by cases t <;> first | exact hok.1 | exact hok.2) e
          refine ⟨h1.1, fun {μ base a1 w Q} ht hd hrel hf hq => ?_⟩
          have hev := eval_rel (μ := μ) ht hop
          rw [hb] at hev
          exact wp_cond hev.inv_bool (h1.2 ht hd hrel hf hq)
        · cases e
      · cases e
    · -- a block
      rename_i id b
      split at e
      · rename_i id' s1 h1
        have h2 := ih b s (.exit id') s1 hok h1
        split at e
        · rename_i hid
          simp only [Option.some.injEq, Prod.mk.injEq] at e; obtain ⟨rfl, rfl⟩ := e
          refine ⟨h2.1, fun {μ base a1 w Q} ht hd hrel hf hq => wp_block (h2.2 ht hd hrel hf fun a' w' μ' so => ?_)⟩
          simp only [exOf, Exit.inBlock, hid, if_true]
          exact hq a' w' μ' so
        · rename_i hid
          simp only [Option.some.injEq, Prod.mk.injEq] at e; obtain ⟨rfl, rfl⟩ := e
          refine ⟨h2.1, fun {μ base a1 w Q} ht hd hrel hf hq => wp_block (h2.2 ht hd hrel hf fun a' w' μ' so => ?_)⟩
          simp only [exOf, Exit.inBlock, hid, if_false]
          exact hq a' w' μ' so
      · rename_i hne
        have h1 := ih b s ex s' hok e
        refine ⟨h1.1, fun {μ base a1 w Q} ht hd hrel hf hq => wp_block (h1.2 ht hd hrel hf fun a' w' μ' so => ?_)⟩
        have := hq a' w' μ' so
        cases ex <;> first | exact absurd e (hne _ _) | exact this
    · -- a loop
      rename_i b
      have h1 := hl b s ex s' hok (by rw [run]; exact e)
      exact ⟨h1.1, fun {μ base a w Q} ht hd hrel hf hq => wp_of_wpLoop (h1.2 ht hd hrel hf hq)⟩
    · -- a scope
      rename_i b
      split at e
      · rename_i l s1 h1
        split at e
        · rename_i rest hf
          split at e
          · cases e
          · rename_i hng
            have h2 := ih b s (.goto l) s1 hok h1
            have h3 := ih rest s1 ex s' (okCode_label hf hok) e
            refine ⟨Nat.le_trans h2.1 h3.1, fun {μ base a1 w Q} ht hd hrel hfr hq => wp_scope_fwd (h2.2 ht hd hrel (hfr.left h3.1) fun a' w' μ' so => ?_)⟩
            refine ⟨rest, hf, h3.2 so.tmps so.defers so.sim.rel (so.fresh hfr h2.1) fun a2 w2 μ2 so2 => ?_⟩
            have := hq a2 w2 μ2 (so.trans so2 h2.1 h3.1)
            cases ex <;> first | exact absurd e (hng _ _) | exact this
        · cases e
      · rename_i hng
        have h1 := ih b s ex s' hok e
        refine ⟨h1.1, fun {μ base a1 w Q} ht hd hrel hf hq => wp_scope_fwd (h1.2 ht hd hrel hf fun a' w' μ' so => ?_)⟩
        have := hq a' w' μ' so
        cases ex <;> first | exact absurd e (hng _ _) | exact this
    · cases e
    · cases e
end
end Go.Abs
end
section
namespace Go.Abs
open Go

theorem vbeq1_eq {a b : Value} (h : vbeq1 a b = true) : a = b := by
  cases a <;> cases b <;> simp only [vbeq1, Bool.and_eq_true, beq_iff_eq, Bool.false_eq_true] at h
  case string.string s t =>
    have : s = t := by
      cases s; cases t
      simp only [ByteArray.mk.injEq]
      exact Array.toList_inj.1 h
    rw [this]
  case func.func f a b g c d =>
    cases f <;> cases g <;> simp only [Bool.and_eq_true, beq_iff_eq, Bool.false_eq_true] at h
    obtain ⟨⟨⟨⟨rfl, ha⟩, hb⟩, hc⟩, hd⟩ := h
    have e : ∀ {x : Array Value}, x.toList.isEmpty = true → x = #[] := fun {x} h => Array.toList_eq_nil_iff.1 (List.isEmpty_iff.1 h)
    rw [e ha, e hb, e hc, e hd]
  all_goals (try (first | rfl | (subst h; rfl) | (obtain ⟨h1, h2⟩ := h; subst h2; first | (subst h1; rfl) | (obtain ⟨h1, h3⟩ := h1; subst h1; subst h3; rfl))))
theorem vbeqL_eq : ∀ {a b : List Value}, vbeqL a b = true → a = b
  | [], [], _ => rfl
  | [], _ :: _, h => by simp [vbeqL] at h
  | _ :: _, [], h => by simp [vbeqL] at h
  | x :: a, y :: b, h => by
    simp only [vbeqL, Bool.and_eq_true] at h
    rw [vbeq1_eq h.1, vbeqL_eq h.2]
theorem vbeq_eq (a b : Value) (h : vbeq a b = true) : a = b := by
  unfold vbeq at h
  split at h
  · rw [Array.toList_inj.1 (vbeqL_eq h)]
  · rw [Array.toList_inj.1 (vbeqL_eq h)]
  · exact vbeq1_eq h

section
variable {P : Program}

theorem bind_okE {ε α β : Type} {x : Except ε α} {f : α → Except ε β} {b : β} (h : (x >>= f) = .ok b) : ∃ a, x = .ok a ∧ f a = .ok b := by
  cases x with
  | error e => cases h
  | ok a => exact ⟨a, rfl, h⟩
theorem mapErrorE {ε ε' α : Type} {f : ε → ε'} {x : Except ε α} {a : α} (h : x.mapError f = .ok a) : x = .ok a := by
  cases x with
  | error e => cases h
  | ok b => cases h; rfl
theorem forM_E {f : Nat → Except String Unit} : ∀ {l : List Nat}, l.forM f = .ok () → ∀ i ∈ l, f i = .ok ()
  | [], _, i, hi => (List.not_mem_nil hi).elim
  | x :: l, h, i, hi => by
    have h' : (do f x; l.forM f) = Except.ok () := h
    obtain ⟨_, hx, h⟩ := bind_okE h'
    rcases List.mem_cons.1 hi with rfl | hi
    · exact hx
    · exact forM_E h i hi

theorem okCode_of {f : Func} : ∀ {c : Code} {bs ls : List Nat}, CheckCode.code P f bs ls c = .ok () → OkCode c
  | .region id ops d, bs, ls, h => by
    intro hd
    have h' : CheckCode.region P f id ops d = .ok () := h
    unfold CheckCode.region at h'
    obtain ⟨_, _, h'⟩ := bind_okE h'
    obtain ⟨_, _, h'⟩ := bind_okE h'
    unfold CheckCode.require at h'
    split at h'
    · rename_i hk; exact rok_of hk
    · cases h'
  | .seq a b, bs, ls, h => by
    have h' : (do CheckCode.code P f bs ls a; CheckCode.code P f bs ls b) = Except.ok () := h
    obtain ⟨_, h1, h2⟩ := bind_okE h'
    exact ⟨okCode_of h1, okCode_of h2⟩
  | .cond c a b, bs, ls, h => by
    have h' : (do (CheckCode.operand P f c).mapError ("cond: " ++ ·); CheckCode.code P f bs ls a; CheckCode.code P f bs ls b) = Except.ok () := h
    obtain ⟨_, _, h'⟩ := bind_okE h'
    obtain ⟨_, h1, h2⟩ := bind_okE h'
    exact ⟨okCode_of h1, okCode_of h2⟩
  | .block id c, bs, ls, h => okCode_of (c := c) (bs := id :: bs) (ls := ls) h
  | .loop c, bs, ls, h => okCode_of (c := c) (bs := bs) (ls := ls) h
  | .scope c, bs, ls, h => okCode_of (c := c) (bs := bs) (ls := CheckCode.spine c ++ ls) h
  | .skip, _, _, _ => trivial
  | .ret, _, _, _ => trivial
  | .label _, _, _, _ => trivial
  | .refuse _, _, _, _ => trivial
  | .exit _, _, _, _ => trivial
  | .goto _, _, _, _ => trivial
  | .rangeFunc .., _, _, _ => trivial

theorem okFunc_of {f : Func} {c : Code} (h : CheckCode.func P f = .ok ()) (hb : f.body = some c) : OkCode c := by
  unfold CheckCode.func at h
  obtain ⟨_, _, h⟩ := bind_okE h
  obtain ⟨_, _, h⟩ := bind_okE h
  obtain ⟨_, _, h⟩ := bind_okE h
  rw [hb] at h
  obtain ⟨_, _, h⟩ := bind_okE h
  obtain ⟨_, h1, _⟩ := bind_okE h
  exact okCode_of h1

theorem progOk_of (h : P.check = .ok ()) (hm : P.follows .mixedOrders = true) (hn : (P.funcs.all fun f => f.name != "runtime.NumGoroutine") = true) : ProgOk P := by
  refine ⟨hm, fun {f fn c} hf hb => ?_, fun {f fn} hf => ?_⟩
  · unfold Program.check at h
    obtain ⟨_, h1, _⟩ := bind_okE h
    have hlt : f < P.funcs.size := by
      rcases Nat.lt_or_ge f P.funcs.size with h2 | h2
      · exact h2
      · rw [Array.getElem?_eq_none h2] at hf; cases hf
    have h2 := forM_E h1 f (List.mem_range.2 hlt)
    unfold CheckCode.funcAt at h2
    rw [hf] at h2
    exact okFunc_of (mapErrorE h2) hb
  · rw [Array.all_eq_true] at hn
    obtain ⟨hlt, he⟩ := Array.getElem?_eq_some_iff.1 hf
    have := hn f hlt
    rw [he] at this
    simpa using this

theorem vr_plain_eq {μ : Mu} {v v' : Value} (h : VR μ v v') (hp : plain1 v = true) : v' = v := by
  cases h with
  | tup _ => simp [plain1] at hp
  | dead => simp [plain1, dead] at hp
  | a h =>
    cases h with
    | agg _ => simp [plain1] at hp
    | one h =>
      cases h with
      | func h0 h1 h2 =>
        simp only [plain1, Bool.and_eq_true, Array.isEmpty_iff] at hp
        obtain ⟨rfl, rfl⟩ := hp
        rw [Array.toList_eq_nil_iff.1 h1.inv_nil, Array.toList_eq_nil_iff.1 h2.inv_nil]
      | iface _ => simp [plain1] at hp
      | zero h =>
        cases h with
        | plain _ => rfl
        | ptr _ => simp [plain1] at hp
        | slice _ _ _ => simp [plain1] at hp
        | slice0 _ _ => simp [plain1] at hp
        | mark _ _ => simp [plain1, mk] at hp
        | map _ => simp [plain1] at hp
        | tok _ => simp [plain1] at hp
        | deep _ => simp [plain1, dsl] at hp
        | osl _ _ _ => simp [plain1, Abs.osq] at hp
        | fptr _ _ _ => simp [plain1, Abs.fptr] at hp
        | rptr _ => simp [plain1, Abs.rptr] at hp
        | mbool => simp [plain1, mkb] at hp

def MuN : Mu := ⟨fun _ => none, fun _ _ => none⟩

theorem rel_none (g : Gm) {base : Nat} {w : World} (h : base ≤ w.heap.size) : Rel MuN base g w :=
  ⟨h, fun _ _ _ hb => (by cases hb), fun _ _ _ _ _ _ hb => (by cases hb), fun _ _ _ hb => (by cases hb)⟩

/-- A CALL OF A WHOLE FUNCTION. -/
theorem calls_of_callN (hP : ProgOk P) {X : Known} (hX : KnownOk P X) {chk : Chk} (hchk : ∀ a b, chk a b = true → a = b) {n : Nat} {f : FuncId} {fn : Func} {c : Code} {args : List Value} {args' : Array Value} {v : Value} {h' : Hp}
    (hf : P.funcs[f]? = some fn) (hb : fn.body = some c) (hr : callN chk P X n f args H0 = some (v, h')) (hl : All2 (VR MuN) args args'.toList) (w : World) :
    Calls P f args' w fun e w' => RowKit.Below w.heap.size w w' ∧ ∃ v' μ', e = .returned v' ∧ Out MuN w.heap.size H0 w v h' v' w' μ' := by
  have hcall : CallOk P (callN chk P X n) := callWith_ok hP hX (run_sound hP hX hchk n)
  have hd := hcall.2 hr hl (rel_none H0.get (Nat.le_refl w.heap.size)) (fun _ _ _ => rfl)
  rcases hd with ⟨v', w', h1, _⟩ | ⟨_, h2⟩
  · have hn := hP.name hf
    simp [callFunc, hf, hn, hb] at h1
  · refine h2.mono ?_
    rintro e w' ⟨v', rfl, μ', ho⟩
    refine ⟨⟨ho.sim.fr.os, ho.sim.fr.tape, ho.sim.fr.output, ho.sim.fr.size, fun k hk => ho.sim.fr.block k hk fun _ _ _ hb => by cases hb⟩, v', μ', rfl, ho⟩
end
end Go.Abs
end
section
namespace Go.Abs
open Go

noncomputable section

/-- The words for what is not worked out. -/
structure Sy where
  add : Int → Int → Int
  sub : Int → Int → Int
  mul : Int → Int → Int
  quo : Int → Int → Int
  rem : Int → Int → Int
  emod : Int → Int → Int
  neg : Int → Int
  wrap : IntKind → Int → Int
  band : IntKind → Int → Int → Int
  bor : IntKind → Int → Int → Int
  bxor : IntKind → Int → Int → Int
  shl : IntKind → Int → Int → Int
  shr : IntKind → Int → Int → Int
  lt : Int → Int → Bool
  le : Int → Int → Bool
  eq : Int → Int → Bool
  imin : Int → Int → Int
  imax : Int → Int → Int
  nat : Int → Nat
  int : Nat → Int
  nadd : Nat → Nat → Nat
  nsub : Nat → Nat → Nat
  nmul : Nat → Nat → Nat
  ndiv : Nat → Nat → Nat
  nmod : Nat → Nat → Nat
  nbeq : Nat → Nat → Bool
  nmin : Nat → Nat → Nat
  get : {α : Type} → α → List α → Nat → α
  set : {α : Type} → List α → Nat → α → List α
  app : {α : Type} → List α → List α → List α
  drop : {α : Type} → Nat → List α → List α
  take : {α : Type} → Nat → List α → List α
  len : {α : Type} → List α → Nat
  rep : {α : Type} → Nat → α → List α
  slen : ByteArray → Nat
  sapp : ByteArray → ByteArray → ByteArray
  ssub : ByteArray → Nat → Nat → ByteArray
  sget : ByteArray → Nat → Int
  seq : ByteArray → ByteArray → Bool
  slt : ByteArray → ByteArray → Bool
  sbytes : ByteArray → List Int
  sof : List Int → ByteArray
  fst : ByteArray × ByteArray → ByteArray
  snd : ByteArray × ByteArray → ByteArray
  half : List (ByteArray × ByteArray) → Nat → ByteArray
  fof : Int → Nat
  feq : Nat → Nat → Bool
  fge : Nat → Nat → Bool
  fadd : Nat → Nat → Nat
  faddOk : Nat → Nat → Prop
  fint : Nat → Int
  fintOk : Nat → Prop
  ile : Int → Int → Prop
  ilt : Int → Int → Prop
  nle : Nat → Nat → Prop
  nlt : Nat → Nat → Prop
  ieq : Int → Int → Prop
  neq : Nat → Nat → Prop
  no : Oper → List Value → Prop
  leq : List Int → List Int → Bool
  dint : Value → Int
  dstr : Value → ByteArray
  dbool : Value → Bool
  dels : Value → List Value
  fld : Value → Nat → Value
  ints : List Value → List Int
  svals : ByteArray → List Value
  mget : Value → Value → List (Value × Value) → Value → Value
  mhas : Value → List (Value × Value) → Value → Bool
  mput : Value → List (Value × Value) → Value → Value → List (Value × Value)
  mdel : Value → List (Value × Value) → Value → List (Value × Value)
  setc : Value → Value → Nat → List Value → Value

/-- An element turned: cells of it laid over. -/
def setc (z x : Value) (j : Nat) (us : List Value) : Value :=
  match z with
  | .agg zs => .agg (spliceL (cellsN (.agg zs) x) j us).toArray
  | _ => us.headD x
def bitsOf (f : {n : Nat} → BitVec n → BitVec n → BitVec n) (k : IntKind) (x y : Int) : Int := k.wrap (f (BitVec.ofInt k.bits x) (BitVec.ofInt k.bits y)).toNat

def noPair : ByteArray × ByteArray := (⟨#[]⟩, ⟨#[]⟩)

/-- What the words mean. -/
def std : Sy where
  add := fun x y => x + y
  sub := fun x y => x - y
  mul := fun x y => x * y
  quo := Int.tdiv
  rem := Int.tmod
  emod := fun x y => x % y
  neg := fun x => -x
  wrap := IntKind.wrap
  band := bitsOf (fun a b => a &&& b)
  bor := bitsOf (fun a b => a ||| b)
  bxor := bitsOf (fun a b => a ^^^ b)
  shl := fun k x y => k.wrap (x * 2 ^ (min y.toNat k.bits))
  shr := fun k x y => x.fdiv (2 ^ (min y.toNat k.bits))
  lt := fun x y => decide (x < y)
  le := fun x y => decide (x ≤ y)
  eq := fun x y => x == y
  imin := fun x y => if y < x then y else x
  imax := fun x y => if y > x then y else x
  nat := Int.toNat
  int := fun n => (n : Int)
  nadd := fun x y => x + y
  nsub := fun x y => x - y
  nmul := fun x y => x * y
  ndiv := fun x y => x / y
  nmod := fun x y => x % y
  nbeq := fun x y => x == y
  nmin := min
  get := fun d l i => l.getD i d
  set := fun l i x => l.set i x
  app := fun l m => l ++ m
  drop := List.drop
  take := List.take
  len := List.length
  rep := List.replicate
  slen := fun s => s.data.toList.length
  sapp := fun s t => s ++ t
  ssub := fun s l h => ⟨((s.data.toList.drop l).take (h - l)).toArray⟩
  sget := fun s i => ((s.data.toList.getD i 0).toNat : Int)
  seq := fun s t => s.data.toList == t.data.toList
  slt := fun s t => Op.bytesLess s.data.toList t.data.toList
  sbytes := fun s => s.data.toList.map fun b => (b.toNat : Int)
  sof := fun l => ⟨(l.map fun n => UInt8.ofNat n.toNat).toArray⟩
  fst := fun p => p.1
  snd := fun p => p.2
  half := fun l i => if i % 2 = 0 then (l.getD (i / 2) noPair).1 else (l.getD (i / 2) noPair).2
  fof := FloatKind.f64.nearest
  feq := fun x y => Ieee.double.order x y == some .eq
  fge := fun x y => Ieee.double.order x y == some .gt || Ieee.double.order x y == some .eq
  fadd := fun x y => (Ieee.double.add x y).getD 0
  faddOk := fun x y => ((Ieee.double.add x y).isSome : Bool) = true
  fint := fun x => ((Ieee.double.read x).toInt .zero).getD 0
  fintOk := fun x => (Ieee.double.read x).toInt .zero = some (((Ieee.double.read x).toInt .zero).getD 0) ∧ -9223372036854775808 ≤ ((Ieee.double.read x).toInt .zero).getD 0 ∧ ((Ieee.double.read x).toInt .zero).getD 0 ≤ 9223372036854775807
  ile := fun x y => x ≤ y
  ilt := fun x y => x < y
  nle := fun x y => x ≤ y
  nlt := fun x y => x < y
  ieq := fun x y => x = y
  neq := fun x y => x = y
  no := fun _ _ => False
  leq := fun l m => l == m
  dint := dint
  dstr := dstr
  dbool := dbool
  dels := dels
  fld := fld
  ints := fun l => l.map dint
  svals := fun s => s.data.toList.map fun b => .int .u8 b.toNat
  mget := mget
  mhas := mhas
  mput := mput
  mdel := mdel
  setc := setc

/-- The value under a mark. -/
def den (v : Value) : Value :=
  match v with
  | .func (.yield 0) first cap => match first.toList, cap.toList with
    | [w], [] => if markable w then w else v
    | _, _ => v
  | v => v
def isMark (v : Value) : Bool :=
  match v with
  | .func (.yield 0) _ _ => true
  | _ => false

/-- One way an operation may come to its end: where it holds, what it asks, what it gives. -/
structure Alt where
  cond : Option Prop
  ob : Option Prop
  v : Value
  h : Hp

def holds : Option Prop → Prop
  | none => True
  | some p => p
def one (h : Hp) (ob : Prop) (v : Value) : Option (List Alt) := some [⟨none, some ob, v, h⟩]
def pure1 (h : Hp) (v : Value) : Option (List Alt) := some [⟨none, none, v, h⟩]
/-- A bool that is not worked out. -/
def two (h : Hp) (b : Bool) : Option (List Alt) := some [⟨some (b = true), none, .bool true, h⟩, ⟨some (b = false), none, .bool false, h⟩]

variable (S : Sy)

/-- In the bounds of an int. -/
def inI (n : Int) : Prop := S.ile (-9223372036854775808) n ∧ S.ile n 9223372036854775807

def symInt (h : Hp) (op : BinOp) (k : IntKind) (x y : Int) : Option (List Alt) :=
  match op, k with
  | .add, .i64 => one h (inI S (S.add x y)) (mk (.int .i64 (S.add x y)))
  | .sub, .i64 => one h (inI S (S.sub x y)) (mk (.int .i64 (S.sub x y)))
  | .mul, .i64 => one h (inI S (S.mul x y)) (mk (.int .i64 (S.mul x y)))
  | .quo, .i64 => one h (S.ilt 0 y ∧ inI S x) (mk (.int .i64 (S.quo x y)))
  | .add, k => pure1 h (mk (.int k (S.wrap k (S.add x y))))
  | .sub, k => pure1 h (mk (.int k (S.wrap k (S.sub x y))))
  | .mul, k => pure1 h (mk (.int k (S.wrap k (S.mul x y))))
  | .quo, k => one h (S.ilt 0 y) (mk (.int k (S.wrap k (S.quo x y))))
  | .rem, k => one h (S.ilt 0 y) (mk (.int k (S.rem x y)))
  | .and, k => pure1 h (mk (.int k (S.band k x y)))
  | .or, k => pure1 h (mk (.int k (S.bor k x y)))
  | .xor, k => pure1 h (mk (.int k (S.bxor k x y)))
  | .eql, _ => two h (S.eq x y)
  | .neq, _ => two h (!(S.eq x y))
  | .lss, _ => two h (S.lt x y)
  | .leq, _ => two h (S.le x y)
  | .gtr, _ => two h (S.lt y x)
  | .geq, _ => two h (S.le y x)
  | _, _ => none

def symStr (h : Hp) (op : BinOp) (x y : ByteArray) : Option (List Alt) :=
  match op with
  | .add => one h (S.nle (S.nadd (S.slen x) (S.slen y)) 9223372036854775807) (mk (.string (S.sapp x y)))
  | .eql => two h (S.seq x y)
  | .neq => two h (!(S.seq x y))
  | .lss => two h (S.slt x y)
  | .gtr => two h (!(S.slt x y || S.seq x y))
  | .leq => two h (S.slt x y || S.seq x y)
  | .geq => two h (!(S.slt x y))
  | _ => none

def symFlo (h : Hp) (op : BinOp) (x y : Nat) : Option (List Alt) :=
  match op with
  | .eql => two h (S.feq x y)
  | .neq => two h (!(S.feq x y))
  | .geq => two h (S.fge x y)
  | .gtr => two h (S.fge x y && !(S.feq x y))
  | _ => none
def symCom (h : Hp) (op : BinOp) (a b c d : Nat) : Option (List Alt) :=
  match op with
  | .eql => two h (S.feq a c && S.feq b d)
  | .neq => two h (!(S.feq a c && S.feq b d))
  | .add => one h (S.faddOk a c ∧ S.faddOk b d) (mk (.complex .f64 (S.fadd a c) (S.fadd b d)))
  | _ => none

def symBin (h : Hp) (op : BinOp) (a b : Value) : Option (List Alt) :=
  match a, b with
  | .int k x, .int k' y =>
    match op with
    | .shl => one h (S.ile 0 y) (mk (.int k (S.shl k x y)))
    | .shr => one h (S.ile 0 y) (mk (.int k (S.shr k x y)))
    | _ => if k = k' then symInt S h op k x y else none
  | .string x, .string y => symStr S h op x y
  | .float .f64 x, .float .f64 y => symFlo S h op x y
  | .complex .f64 a b, .complex .f64 c d => symCom S h op a b c d
  | _, _ => none

/-- A bound of a slice expression: what it asks, what it is. -/
def symBound (x : Option Value) (dflt most : Nat) : Option (Prop × Nat) :=
  match x with
  | none => some (True, dflt)
  | some v => match den v with
    | .int _ n => some (S.ile 0 n ∧ S.ile n (S.int most), S.nat n)
    | _ => none

def symSlice (P : Program) (h : Hp) (t : TypeId) (v : Value) (lo hi : Option Value) : Option (List Alt) :=
  match P.underlying t, den v with
  | some .string, .string s => match symBound S hi (S.slen s) (S.slen s) with
    | some (o1, b) => match symBound S lo 0 b with
      | some (o2, a) => one h (o1 ∧ o2) (mk (.string (S.ssub s a b)))
      | none => none
    | none => none
  | some (.slice elem), .slice (some ⟨b, o, none⟩) len cap => match szA P elem with
    | some sz => if cap = unk sz then match symBound S hi len len with
      | some (o1, y) => match symBound S lo 0 y with
        | some (o2, x) => one h (o1 ∧ o2) (mk (.slice (some ⟨b, S.nadd o (S.nmul x sz), none⟩) (S.nsub y x) cap))
        | none => none
      | none => none
      else match lo with
        | some _ => none
        | none => if isUnk cap then none else match symBound S hi len cap with
          | some (o1, y) => one h o1 (mk (.slice (some ⟨b, o, none⟩) y cap))
          | none => none
    | none => none
  | _, _ => none

def symIdx (P : Program) (h : Hp) (t : TypeId) (v i : Value) : Option (List Alt) :=
  match den i with
  | .int _ n => match P.underlying t, den v with
    | some (.array len elem), .pointer (some ⟨b, o, none⟩) => match szA P elem with
      | some sz => one h (S.ile 0 n ∧ S.ilt n (S.int len)) (mk (.pointer (some ⟨b, S.nadd o (S.nmul (S.nat n) sz), none⟩)))
      | none => none
    | some (.slice elem), .slice (some ⟨b, o, none⟩) len _ => match szA P elem with
      | some sz => one h (S.ile 0 n ∧ S.ilt n (S.int len)) (mk (.pointer (some ⟨b, S.nadd o (S.nmul (S.nat n) sz), none⟩)))
      | none => none
    | _, _ => none
  | _ => none

/-- A struct of two texts. -/
def isStrT (P : Program) (t : TypeId) : Bool := match P.underlying t with
  | some .string => true
  | _ => false
def pairTy (P : Program) (t : TypeId) : Bool := match P.underlying t with
  | some (.struct fs) => match fs.toList with
    | [f, g] => f.name != "_" && g.name != "_" && f.offset == 0 && g.offset == 1 && isStrT P f.type && isStrT P g.type && !P.stoodInHeld t && !P.eqGuardType P.depth t
    | _ => false
  | _ => false
def symAgg (P : Program) (h : Hp) (op : BinOp) (t : TypeId) (a b : Value) : Option (List Alt) :=
  match a, b with
  | .agg xs, .agg ys => match xs.toList, ys.toList with
    | [u1, u2], [w1, w2] => match den u1, den u2, den w1, den w2 with
      | .string p, .string q, .string r, .string s => if pairTy P t then match op with
          | .eql => two h (S.seq p r && S.seq q s)
          | .neq => two h (!(S.seq p r && S.seq q s))
          | _ => none
        else none
      | _, _, _, _ => none
    | _, _ => none
  | _, _ => none

/-- Cells that are numbers. -/
def numsOf (k : IntKind) : List Value → Option (List Int)
  | [] => some []
  | v :: l => match den v with
    | .int k' n => if k = k' then match numsOf k l with
      | some m => some (n :: m)
      | none => none
      else none
    | _ => none
/-- Arrays of numbers. -/
def symArr (P : Program) (h : Hp) (op : BinOp) (t : TypeId) (a b : Value) : Option (List Alt) :=
  match P.underlying t with
  | some (.array n e) => match P.underlying e, szA P e, a, b with
    | some (.int k), some 1, .agg xs, .agg ys => match numsOf k xs.toList, numsOf k ys.toList with
      | some l, some m => if l.length = n ∧ m.length = n ∧ P.eqGuardType P.depth t = false then match op with
        | .eql => two h (S.leq l m)
        | .neq => two h (!(S.leq l m))
        | _ => none
        else none
      | _, _ => none
    | _, _, _, _ => none
  | _ => none

def anyMark (ρ : Operand → Value) (xs : List Operand) : Bool := xs.any fun x => isMark (ρ x)

/-- An operation that looks at no memory, of which a value is not known. -/
def symT (P : Program) (ρ : Operand → Value) (o : Oper) (h : Hp) : Option (List Alt) :=
  match o.op with
  | .binOp op t x y _ => match symBin S h op (den (ρ x)) (den (ρ y)) with
    | some a => some a
    | none => match symAgg S P h op t (ρ x) (ρ y) with
      | some a => some a
      | none => match symArr S P h op t (ρ x) (ρ y) with
      | some a => some a
      | none => match op with
      | .eql | .neq => match binA P op t x y (den (ρ x)) (den (ρ y)) with
        | some v => pure1 h v
        | none => none
      | _ => none
  | .unOp op _ x => match op, den (ρ x) with
    | .neg, .int .i64 n => one h (inI S (S.neg n)) (mk (.int .i64 (S.neg n)))
    | .xor, .int k n => pure1 h (mk (.int k (S.bxor k (if k.signed then -1 else k.max) n)))
    | _, _ => none
  | .convert src dst x => match P.underlying src, P.underlying dst, den (ρ x) with
    | some (.int _), some (.int k), .int _ n => pure1 h (mk (.int k (S.wrap k n)))
    | some .string, some .string, .string s => pure1 h (mk (.string s))
    | some (.int _), some (.float .f64), .int _ n => pure1 h (mk (.float .f64 (S.fof n)))
    | some (.float _), some (.int .i64), .float .f64 b => one h (S.fintOk b) (mk (.int .i64 (S.fint b)))
    | _, _, _ => none
  | .slice t x lo hi none => symSlice S P h t (ρ x) (lo.map ρ) (hi.map ρ)
  | .indexAddr t x i => symIdx S P h t (ρ x) (ρ i)
  | .index t x i => match P.underlying t, den (ρ x), den (ρ i) with
    | some .string, .string s, .int _ n => one h (S.ile 0 n ∧ S.ilt n (S.int (S.slen s))) (mk (.int .u8 (S.sget s (S.nat n))))
    | _, _, _ => none
  | .fieldAddr s x f => match den (ρ x), P.underlying s with
    | .pointer (some ⟨b, o, none⟩), some (.struct fs) => match fs[f]? with
      | some fd => match szA P fd.type with
        | some (_ + 1) => pure1 h (mk (.pointer (some ⟨b, S.nadd o fd.offset, none⟩)))
        | _ => none
      | none => none
    | _, _ => none
  | .nilCheck x => match den (ρ x) with
    | .pointer (some a) => pure1 h (mk (.pointer (some a)))
    | _ => none
  | .call { callee := .builtin .len, args, argTypes } => match argTypes[0]? with
    | some t => match P.underlying t, args.toList.map fun x => den (ρ x) with
      | some .string, [.string s] => pure1 h (mk (goInt (S.slen s)))
      | some (.slice _), [.slice _ n _] => pure1 h (mk (.int .i64 (S.int n)))
      | _, _ => none
    | none => none
  | .call { callee := .builtin .min, args, .. } => match args.toList.map fun x => den (ρ x) with
    | [.int k x, .int k' y] => if k = k' then pure1 h (mk (.int k (S.imin x y))) else none
    | _ => none
  | .call { callee := .builtin .max, args, .. } => match args.toList.map fun x => den (ρ x) with
    | [.int k x, .int k' y] => if k = k' then pure1 h (mk (.int k (S.imax x y))) else none
    | _ => none
  | .call { callee := .builtin .complex, args, .. } => match args.toList.map fun x => den (ρ x) with
    | [.float .f64 x, .float .f64 y] => pure1 h (mk (.complex .f64 x y))
    | _ => none
  | .call { callee := .builtin .real, args, .. } => match args.toList.map fun x => den (ρ x) with
    | [.complex .f64 x _] => pure1 h (mk (.float .f64 x))
    | _ => none
  | .call { callee := .builtin .imag, args, .. } => match args.toList.map fun x => den (ρ x) with
    | [.complex .f64 _ y] => pure1 h (mk (.float .f64 y))
    | _ => none
  | _ => none
end
end Go.Abs
end
section
namespace Go.Abs
open Go

section
variable {P : Program} {μ : Mu}

theorem den_cases (v : Value) : Abs.den v = v ∨ ∃ w, v = mk w ∧ markable w = true ∧ Abs.den v = w := by
  unfold Abs.den
  split
  · split
    · rename_i first cap _ _ w hf hc
      split
      · rename_i hm
        refine .inr ⟨w, ?_, hm, rfl⟩
        have h1 : first = #[w] := Array.toList_inj.1 hf
        have h2 : cap = #[] := Array.toList_inj.1 hc
        rw [h1, h2]; rfl
      · exact .inl rfl
    · exact .inl rfl
  · exact .inl rfl
theorem den_mk {w : Value} (h : markable w = true) : Abs.den (mk w) = w := by
  show (if markable w then w else mk w) = w
  rw [if_pos h]
theorem markable_basic {w : Value} (h : markable w = true) : isBasic w = true := by cases w <;> first | (simp [markable] at h; done) | rfl

theorem VR.den {v v' : Value} (h : VR μ v v') : VR μ (Abs.den v) v' := by
  rcases den_cases v with e | ⟨w, rfl, hm, e⟩
  · rw [e]; exact h
  · rw [e]
    cases h with
    | a h => cases h with
      | one h => cases h with
        | func h0 _ _ => simp [isYield] at h0
        | zero h => cases h with
          | mark h _ => exact .zero h
          | plain hp => simp [Abs.plain1, mk] at hp
theorem VR1.den_iff {v v' : Value} : VR1 μ (Abs.den v) v' ↔ VR1 μ v v' := by
  rcases den_cases v with e | ⟨w, rfl, hm, e⟩
  · rw [e]
  · rw [e]
    constructor
    · intro h
      exact .zero (.mark (h.zero_of_basic (markable_basic hm)) hm)
    · intro h
      have := (VR.one h).den
      rw [e] at this
      exact this.one_of_oneCell (by cases w <;> first | (simp [markable] at hm; done) | rfl)

theorem OpR.den {ρ ρ' : Operand → Value} {xs : List Operand} (h : OpR μ ρ ρ' xs) : OpR μ (fun x => Abs.den (ρ x)) ρ' xs := fun x hx => (h x hx).den

/-- A value, or that value marked. -/
def Marks (v raw : Value) : Prop := v = raw ∨ (v = mk raw ∧ markable raw = true)
theorem Marks.vr {v raw v' : Value} (h : Marks v raw) (r : VR μ raw v') : VR μ v v' := by
  rcases h with rfl | ⟨rfl, hm⟩
  · exact r
  · refine .zero (.mark ?_ hm)
    refine r.zero_of_basic ?_
    cases raw <;> first | (simp [markable] at hm; done) | rfl

theorem semT_of {ρ : Operand → Value} {o : Oper} {v raw : Value} (h : stepT P (fun x => den (ρ x)) o = some raw) (hm : Marks v raw) : SemT P ρ o v := by
  intro μ ρ' w hr
  obtain ⟨v', h1, h2⟩ := simT h hr.den w
  exact ⟨v', h1, hm.vr h2⟩

/-- The ways an operation may come to its end: one of them holds; each is as the model's. -/
def AltsOk (alts : List Alt) (G : Alt → Prop) : Prop := (∃ a ∈ alts, holds a.cond) ∧ ∀ a ∈ alts, holds a.cond → holds a.ob → G a

theorem alts_one {h : Hp} {ob : Prop} {v : Value} {alts : List Alt} {G : Alt → Prop} (e : one h ob v = some alts) (hg : ob → G ⟨none, some ob, v, h⟩) : AltsOk alts G := by
  unfold one at e
  simp only [Option.some.injEq] at e; subst e
  exact ⟨⟨_, List.mem_singleton.2 rfl, trivial⟩, fun a ha _ ho => by rw [List.mem_singleton.1 ha] at ho ⊢; exact hg ho⟩
theorem alts_pure {h : Hp} {v : Value} {alts : List Alt} {G : Alt → Prop} (e : pure1 h v = some alts) (hg : G ⟨none, none, v, h⟩) : AltsOk alts G := by
  unfold pure1 at e
  simp only [Option.some.injEq] at e; subst e
  exact ⟨⟨_, List.mem_singleton.2 rfl, trivial⟩, fun a ha _ _ => by rw [List.mem_singleton.1 ha]; exact hg⟩
theorem alts_two {h : Hp} {b : Bool} {alts : List Alt} {G : Alt → Prop} (e : two h b = some alts) (ht : b = true → G ⟨some (b = true), none, .bool true, h⟩) (hf : b = false → G ⟨some (b = false), none, .bool false, h⟩) : AltsOk alts G := by
  unfold two at e
  simp only [Option.some.injEq] at e; subst e
  refine ⟨?_, fun a ha hc _ => ?_⟩
  · cases hb : b
    · exact ⟨_, List.mem_cons_of_mem _ (List.mem_singleton.2 rfl), rfl⟩
    · exact ⟨_, List.mem_cons_self, rfl⟩
  · rcases List.mem_cons.1 ha with rfl | ha
    · exact ht hc
    · rw [List.mem_singleton.1 ha] at hc ⊢; exact hf hc

theorem evalSem_bind {α β : Type} (s : Sem α) (f : α → Sem β) : evalSem P (s >>= f) = (evalSem P s).bind fun a => evalSem P (f a) := by
  show evalSem P (Sem.bind s f) = _
  induction s with
  | pure a => rfl
  | program k ih => exact ih P
  | mark m k ih => exact ih
  | _ => rfl
theorem evalSem_underlying {t : TypeId} {d : TypeDesc} (h : P.underlying t = some d) : evalSem P (underlying t) = some d := by
  unfold underlying
  rw [evalSem_bind]
  show (some P).bind _ = _
  simp only [Option.bind_some, h]
  rfl

theorem wrap_i64 {n : Int} (h : -9223372036854775808 ≤ n ∧ n ≤ 9223372036854775807) : IntKind.i64.wrap n = n := by
  have e : IntKind.i64.wrap n = (if n % 18446744073709551616 ≥ 9223372036854775808 then n % 18446744073709551616 - 18446744073709551616 else n % 18446744073709551616) := by
    simp [IntKind.wrap, IntKind.bits, IntKind.signed]
  rw [e]
  split <;> omega

theorem tdiv_range {m n : Int} (h1 : 0 < n) (h2 : -9223372036854775808 ≤ m ∧ m ≤ 9223372036854775807) : -9223372036854775808 ≤ m.tdiv n ∧ m.tdiv n ≤ 9223372036854775807 := by
  have h3 : (m.tdiv n).natAbs ≤ m.natAbs := by rw [Int.natAbs_tdiv]; exact Nat.div_le_self _ _
  rcases Int.le_total 0 m with h | h
  · have := Int.tdiv_nonneg h (Int.le_of_lt h1)
    omega
  · have h4 := Int.tdiv_nonneg (a := -m) (b := n) (by omega) (Int.le_of_lt h1)
    rw [Int.neg_tdiv] at h4
    omega

theorem bin_int {op : BinOp} {t : TypeId} {x y : Operand} {k k' : IntKind} {m n : Int} {v : Value} (h : evalSem P (binOp op t (.int k m) (.int k' n)) = some v) (hp : plainV v = true) :
    binA P op t x y (.int k m) (.int k' n) = some v := by
  unfold binA
  have h1 : evalSem P (do eqGuard op t x y (.int k m) (.int k' n); binOp op t (.int k m) (.int k' n)) = some v := by
    unfold eqGuard
    cases op <;> exact h
  have h2 : filterPlain (some v) = some v := by unfold filterPlain; simp only [hp, if_true]
  simp only [show plainV (.int k m) = true from rfl, show plainV (.int k' n) = true from rfl, Bool.and_self, if_true, h1]
  exact h2

theorem symInt_ok {ρ : Operand → Value} {o : Oper} {op : BinOp} {t : TypeId} {x y : Operand} {c : TypeId} {k : IntKind} {m n : Int} {h : Hp} {alts : List Alt} (ho : o.op = .binOp op t x y c)
    (hx : den (ρ x) = .int k m) (hy : den (ρ y) = .int k n) (hns : op ≠ .shl ∧ op ≠ .shr) (e : symInt std h op k m n = some alts) : AltsOk alts fun a => a.h = h ∧ SemT P ρ o a.v := by
  have mkT : ∀ {v raw : Value}, evalSem P (binOp op t (.int k m) (.int k n)) = some raw → plainV raw = true → Marks v raw → SemT P ρ o v := by
    intro v raw h1 h2 h3
    refine semT_of (raw := raw) ?_ h3
    unfold stepT
    rw [ho]
    simp only [hx, hy]
    exact bin_int h1 h2
  have cmp : ∀ (b : Bool), op ≠ .add → op ≠ .sub → op ≠ .mul → op ≠ .quo → op ≠ .rem → op ≠ .and → op ≠ .or → op ≠ .xor → op ≠ .andNot → evalSem P (Op.intCmp op m n) = some (.bool b) → two h b = some alts → AltsOk alts fun a => a.h = h ∧ SemT P ρ o a.v := by
    intro b h1 h2 h3 h4 h5 h6 h7 h8 h9 hb e
    have hv : evalSem P (binOp op t (.int k m) (.int k n)) = some (.bool b) := by
      unfold binOp
      cases op <;> first | (exact absurd rfl hns.1) | (exact absurd rfl hns.2) | contradiction | (simp only [ne_eq, not_true_eq_false, if_false]; exact hb)
    exact alts_two e (fun hb => by subst hb; exact ⟨rfl, mkT hv rfl (.inl rfl)⟩) (fun hb => by subst hb; exact ⟨rfl, mkT hv rfl (.inl rfl)⟩)
  have arp : ∀ {r : Int}, evalSem P (binOp op t (.int k m) (.int k n)) = some (.int k r) → pure1 h (mk (.int k r)) = some alts → AltsOk alts fun a => a.h = h ∧ SemT P ρ o a.v := by
    intro r h1 e
    exact alts_pure e ⟨rfl, mkT h1 rfl (.inr ⟨rfl, rfl⟩)⟩
  have ari : ∀ {ob : Prop} {r : Int}, (ob → evalSem P (binOp op t (.int k m) (.int k n)) = some (.int k r)) → one h ob (mk (.int k r)) = some alts → AltsOk alts fun a => a.h = h ∧ SemT P ρ o a.v := by
    intro ob r h1 e
    exact alts_one e fun hob => ⟨rfl, mkT (h1 hob) rfl (.inr ⟨rfl, rfl⟩)⟩
  unfold symInt at e
  split at e
  · refine ari (fun hob => ?_) e
    simp only [binOp, Op.intArith, ne_eq, not_true_eq_false, if_false]
    rw [← wrap_i64 hob]; rfl
  · refine ari (fun hob => ?_) e
    simp only [binOp, Op.intArith, ne_eq, not_true_eq_false, if_false]
    rw [← wrap_i64 hob]; rfl
  · refine ari (fun hob => ?_) e
    simp only [binOp, Op.intArith, ne_eq, not_true_eq_false, if_false]
    rw [← wrap_i64 hob]; rfl
  · refine ari (fun hob => ?_) e
    obtain ⟨h1, h2⟩ := hob
    have h1 : 0 < n := h1
    have h2 : -9223372036854775808 ≤ m ∧ m ≤ 9223372036854775807 := h2
    have hq := tdiv_range h1 h2
    simp only [binOp, Op.intDiv, ne_eq, not_true_eq_false, if_false, if_neg (show ¬ n = 0 by omega)]
    show some (Value.int IntKind.i64 (IntKind.i64.wrap (m.tdiv n))) = _
    rw [wrap_i64 hq]; rfl
  · exact arp (by simp only [binOp, Op.intArith, ne_eq, not_true_eq_false, if_false]; rfl) e
  · exact arp (by simp only [binOp, Op.intArith, ne_eq, not_true_eq_false, if_false]; rfl) e
  · exact arp (by simp only [binOp, Op.intArith, ne_eq, not_true_eq_false, if_false]; rfl) e
  · refine ari (fun hob => ?_) e
    have hob : 0 < n := hob
    simp only [binOp, Op.intDiv, ne_eq, not_true_eq_false, if_false, if_neg (show ¬ n = 0 by omega)]; rfl
  · refine ari (fun hob => ?_) e
    have hob : 0 < n := hob
    simp only [binOp, Op.intDiv, ne_eq, not_true_eq_false, if_false, if_neg (show ¬ n = 0 by omega)]; rfl
  · exact arp (by simp only [binOp, Op.intBits, ne_eq, not_true_eq_false, if_false]; rfl) e
  · exact arp (by simp only [binOp, Op.intBits, ne_eq, not_true_eq_false, if_false]; rfl) e
  · exact arp (by simp only [binOp, Op.intBits, ne_eq, not_true_eq_false, if_false]; rfl) e
  · exact cmp _ (by simp) (by simp) (by simp) (by simp) (by simp) (by simp) (by simp) (by simp) (by simp) rfl e
  · refine cmp _ (by simp) (by simp) (by simp) (by simp) (by simp) (by simp) (by simp) (by simp) (by simp) rfl e
  · exact cmp _ (by simp) (by simp) (by simp) (by simp) (by simp) (by simp) (by simp) (by simp) (by simp) rfl e
  · exact cmp _ (by simp) (by simp) (by simp) (by simp) (by simp) (by simp) (by simp) (by simp) (by simp) rfl e
  · exact cmp _ (by simp) (by simp) (by simp) (by simp) (by simp) (by simp) (by simp) (by simp) (by simp) rfl e
  · exact cmp _ (by simp) (by simp) (by simp) (by simp) (by simp) (by simp) (by simp) (by simp) (by simp) rfl e
  · cases e

theorem symStr_ok {ρ : Operand → Value} {o : Oper} {op : BinOp} {t : TypeId} {x y : Operand} {c : TypeId} {m n : ByteArray} {h : Hp} {alts : List Alt} (ho : o.op = .binOp op t x y c)
    (hx : den (ρ x) = .string m) (hy : den (ρ y) = .string n) (e : symStr std h op m n = some alts) : AltsOk alts fun a => a.h = h ∧ SemT P ρ o a.v := by
  have mkT : ∀ {v raw : Value}, strOp op m n = some raw → Marks v raw → SemT P ρ o v := by
    intro v raw h1 h3
    refine semT_of (raw := raw) ?_ h3
    unfold stepT
    rw [ho]
    simp only [hx, hy, binA]
    exact h1
  have cmp : ∀ (b : Bool), strOp op m n = some (.bool b) → two h b = some alts → AltsOk alts fun a => a.h = h ∧ SemT P ρ o a.v := by
    intro b hv e
    exact alts_two e (fun hb => by subst hb; exact ⟨rfl, mkT hv (.inl rfl)⟩) (fun hb => by subst hb; exact ⟨rfl, mkT hv (.inl rfl)⟩)
  unfold symStr at e
  split at e
  · refine alts_one e fun hob => ⟨rfl, mkT (raw := .string (m ++ n)) ?_ (.inr ⟨rfl, rfl⟩)⟩
    have hob : m.data.toList.length + n.data.toList.length ≤ 9223372036854775807 := hob
    have h1 : m.size = m.data.toList.length := Array.length_toList.symm
    have h2 : n.size = n.data.toList.length := Array.length_toList.symm
    unfold strOp
    simp only
    rw [if_neg]
    rw [h1, h2]
    have : IntKind.i64.max = 9223372036854775807 := by decide
    omega
  all_goals first
    | exact cmp _ rfl e
    | (cases e; done)

theorem bin_flo {op : BinOp} {t : TypeId} {x y : Operand} {m n : Nat} {v : Value} (h : evalSem P (Op.floatCmp op .f64 m n) = some v) (ho : op ≠ .add ∧ op ≠ .sub ∧ op ≠ .mul ∧ op ≠ .quo) (hp : plainV v = true) :
    binA P op t x y (.float .f64 m) (.float .f64 n) = some v := by
  unfold binA
  have h1 : evalSem P (do eqGuard op t x y (.float .f64 m) (.float .f64 n); binOp op t (.float .f64 m) (.float .f64 n)) = some v := by
    unfold eqGuard
    obtain ⟨a, b, c, d⟩ := ho
    cases op <;> first | (exact absurd rfl a) | (exact absurd rfl b) | (exact absurd rfl c) | (exact absurd rfl d) | exact h
  have h2 : filterPlain (some v) = some v := by unfold filterPlain; simp only [hp, if_true]
  simp only [show plainV (.float .f64 m) = true from rfl, show plainV (.float .f64 n) = true from rfl, Bool.and_self, if_true, h1]
  exact h2
theorem bin_com {op : BinOp} {t : TypeId} {x y : Operand} {a b c d : Nat} {v : Value} (h : evalSem P (Op.complexOp op .f64 a b c d) = some v) (hp : plainV v = true) :
    binA P op t x y (.complex .f64 a b) (.complex .f64 c d) = some v := by
  unfold binA
  have g1 : evalSem P (eqGuard op t x y (.complex .f64 a b) (.complex .f64 c d)) = some () := by
    unfold eqGuard
    cases op <;> rfl
  have g2 : binOp op t (.complex .f64 a b) (.complex .f64 c d) = Op.complexOp op .f64 a b c d := by
    unfold binOp
    cases op <;> simp only [ne_eq, not_true_eq_false, if_false]
  have h1 : evalSem P (do eqGuard op t x y (.complex .f64 a b) (.complex .f64 c d); binOp op t (.complex .f64 a b) (.complex .f64 c d)) = some v := by
    rw [evalSem_bind, g1, Option.bind_some, g2]
    exact h
  have h2 : filterPlain (some v) = some v := by unfold filterPlain; simp only [hp, if_true]
  simp only [show plainV (.complex .f64 a b) = true from rfl, show plainV (.complex .f64 c d) = true from rfl, Bool.and_self, if_true, h1]
  exact h2
theorem flo_eql (m n : Nat) : evalSem P (Op.floatCmp .eql .f64 m n) = some (.bool (std.feq m n)) := by
  have : Op.floatCmp .eql .f64 m n = .pure (.bool (std.feq m n)) := by
    unfold Op.floatCmp
    show Sem.pure (Value.bool (FloatKind.f64.format.order m n == some .eq)) = Sem.pure (Value.bool (Ieee.double.order m n == some .eq))
    rw [show FloatKind.f64.format = Ieee.double from rfl]
  rw [this]; rfl
theorem flo_neq (m n : Nat) : evalSem P (Op.floatCmp .neq .f64 m n) = some (.bool (!(std.feq m n))) := by
  have : Op.floatCmp .neq .f64 m n = .pure (.bool (!(std.feq m n))) := by
    unfold Op.floatCmp
    show Sem.pure (Value.bool (FloatKind.f64.format.order m n != some .eq)) = Sem.pure (Value.bool (!(Ieee.double.order m n == some .eq)))
    rw [show FloatKind.f64.format = Ieee.double from rfl]
    rfl
  rw [this]; rfl
theorem flo_geq (m n : Nat) : evalSem P (Op.floatCmp .geq .f64 m n) = some (.bool (std.fge m n)) := by
  have : Op.floatCmp .geq .f64 m n = .pure (.bool (std.fge m n)) := by
    unfold Op.floatCmp
    show Sem.pure (Value.bool (FloatKind.f64.format.order m n == some .gt || FloatKind.f64.format.order m n == some .eq)) = Sem.pure (Value.bool (Ieee.double.order m n == some .gt || Ieee.double.order m n == some .eq))
    rw [show FloatKind.f64.format = Ieee.double from rfl]
  rw [this]; rfl
theorem flo_gtr (m n : Nat) : evalSem P (Op.floatCmp .gtr .f64 m n) = some (.bool (std.fge m n && !(std.feq m n))) := by
  have : Op.floatCmp .gtr .f64 m n = .pure (.bool (std.fge m n && !(std.feq m n))) := by
    unfold Op.floatCmp
    show Sem.pure (Value.bool (FloatKind.f64.format.order m n == some .gt)) = Sem.pure (Value.bool ((Ieee.double.order m n == some .gt || Ieee.double.order m n == some .eq) && !(Ieee.double.order m n == some .eq)))
    rw [show FloatKind.f64.format = Ieee.double from rfl]
    generalize Ieee.double.order m n = r
    cases r with
    | none => rfl
    | some c => cases c <;> rfl
  rw [this]; rfl
theorem com_cmp (m n : Nat) : evalSem P (Op.Complex.cmp .eql .f64 m n) = some (std.feq m n) := by
  unfold Op.Complex.cmp
  rw [evalSem_bind, flo_eql]
  rfl
theorem com_eql (a b c d : Nat) : evalSem P (Op.complexOp .eql .f64 a b c d) = some (.bool (std.feq a c && std.feq b d)) := by
  unfold Op.complexOp
  simp only
  rw [evalSem_bind, com_cmp, Option.bind_some]
  cases std.feq a c
  · rfl
  · show evalSem P (Op.Complex.cmp .eql .f64 b d >>= fun r => pure (Value.bool r)) = _
    rw [evalSem_bind, com_cmp]
    rfl
theorem com_neq (a b c d : Nat) : evalSem P (Op.complexOp .neq .f64 a b c d) = some (.bool (!(std.feq a c && std.feq b d))) := by
  unfold Op.complexOp
  simp only
  rw [evalSem_bind, com_cmp, Option.bind_some]
  cases std.feq a c
  · rfl
  · show evalSem P (Op.Complex.cmp .eql .f64 b d >>= fun r => pure (Value.bool (!r))) = _
    rw [evalSem_bind, com_cmp]
    rfl
theorem com_add {a b r : Nat} (h : Ieee.double.add a b = some r) : evalSem P (Op.Complex.arith .add .f64 a b) = some r := by
  unfold Op.Complex.arith Op.floatArith
  simp only
  rw [show FloatKind.f64.format.add a b = some r from h]
  rfl
theorem symFlo_ok {ρ : Operand → Value} {o : Oper} {op : BinOp} {t : TypeId} {x y : Operand} {c : TypeId} {m n : Nat} {h : Hp} {alts : List Alt} (ho : o.op = .binOp op t x y c)
    (hx : den (ρ x) = .float .f64 m) (hy : den (ρ y) = .float .f64 n) (e : symFlo std h op m n = some alts) : AltsOk alts fun a => a.h = h ∧ SemT P ρ o a.v := by
  have cmp : ∀ (b : Bool), op ≠ .add → op ≠ .sub → op ≠ .mul → op ≠ .quo → evalSem P (Op.floatCmp op .f64 m n) = some (.bool b) → two h b = some alts → AltsOk alts fun a => a.h = h ∧ SemT P ρ o a.v := by
    intro b h1 h2 h3 h4 hv e
    have mkT : SemT P ρ o (.bool b) := by
      refine semT_of (raw := .bool b) ?_ (.inl rfl)
      unfold stepT
      rw [ho]
      simp only [hx, hy]
      exact bin_flo hv ⟨h1, h2, h3, h4⟩ rfl
    exact alts_two e (fun hb => by subst hb; exact ⟨rfl, mkT⟩) (fun hb => by subst hb; exact ⟨rfl, mkT⟩)
  unfold symFlo at e
  split at e
  · exact cmp (std.feq m n) (by simp) (by simp) (by simp) (by simp) (flo_eql m n) e
  · exact cmp (!(std.feq m n)) (by simp) (by simp) (by simp) (by simp) (flo_neq m n) e
  · exact cmp (std.fge m n) (by simp) (by simp) (by simp) (by simp) (flo_geq m n) e
  · exact cmp (std.fge m n && !(std.feq m n)) (by simp) (by simp) (by simp) (by simp) (flo_gtr m n) e
  · cases e
theorem symCom_ok {ρ : Operand → Value} {o : Oper} {op : BinOp} {t : TypeId} {x y : Operand} {c : TypeId} {a b a' b' : Nat} {h : Hp} {alts : List Alt} (ho : o.op = .binOp op t x y c)
    (hx : den (ρ x) = .complex .f64 a b) (hy : den (ρ y) = .complex .f64 a' b') (e : symCom std h op a b a' b' = some alts) : AltsOk alts fun a => a.h = h ∧ SemT P ρ o a.v := by
  have mkT : ∀ {v raw : Value}, evalSem P (Op.complexOp op .f64 a b a' b') = some raw → plainV raw = true → Marks v raw → SemT P ρ o v := by
    intro v raw h1 h2 h3
    refine semT_of (raw := raw) ?_ h3
    unfold stepT
    rw [ho]
    simp only [hx, hy]
    exact bin_com h1 h2
  have cmp : ∀ (r : Bool), evalSem P (Op.complexOp op .f64 a b a' b') = some (.bool r) → two h r = some alts → AltsOk alts fun a => a.h = h ∧ SemT P ρ o a.v := by
    intro r hv e
    exact alts_two e (fun hb => by subst hb; exact ⟨rfl, mkT hv rfl (.inl rfl)⟩) (fun hb => by subst hb; exact ⟨rfl, mkT hv rfl (.inl rfl)⟩)
  unfold symCom at e
  split at e
  · exact cmp (std.feq a a' && std.feq b b') (com_eql a b a' b') e
  · exact cmp (!(std.feq a a' && std.feq b b')) (com_neq a b a' b') e
  · refine alts_one e fun hob => ⟨rfl, mkT (raw := .complex .f64 (std.fadd a a') (std.fadd b b')) ?_ rfl (.inr ⟨rfl, rfl⟩)⟩
    obtain ⟨h1, h2⟩ := hob
    obtain ⟨r1, e1⟩ := Option.isSome_iff_exists.1 h1
    obtain ⟨r2, e2⟩ := Option.isSome_iff_exists.1 h2
    have f1 : std.fadd a a' = r1 := by show (Ieee.double.add a a').getD 0 = r1; rw [e1]; rfl
    have f2 : std.fadd b b' = r2 := by show (Ieee.double.add b b').getD 0 = r2; rw [e2]; rfl
    have g1 := com_add (P := P) e1
    have g2 := com_add (P := P) e2
    rw [f1, f2]
    unfold Op.complexOp
    simp only
    rw [evalSem_bind, g1, Option.bind_some, evalSem_bind, g2]
    rfl
  · cases e

theorem symBin_ok {ρ : Operand → Value} {o : Oper} {op : BinOp} {t : TypeId} {x y : Operand} {c : TypeId} {h : Hp} {alts : List Alt} (ho : o.op = .binOp op t x y c)
    (e : symBin std h op (den (ρ x)) (den (ρ y)) = some alts) : AltsOk alts fun a => a.h = h ∧ SemT P ρ o a.v := by
  unfold symBin at e
  split at e
  · rename_i k m k' n hx hy
    have sh : ∀ {r : Int}, evalSem P (binOp op t (.int k m) (.int k' n)) = some (.int k r) → SemT P ρ o (mk (.int k r)) := by
      intro r h1
      refine semT_of (raw := .int k r) ?_ (.inr ⟨rfl, rfl⟩)
      unfold stepT
      rw [ho]
      simp only [hx, hy]
      exact bin_int h1 rfl
    split at e
    · refine alts_one e fun hob => ⟨rfl, sh ?_⟩
      have hob : 0 ≤ n := hob
      simp only [binOp, Op.shift, if_neg (show ¬ n < 0 by omega)]; rfl
    · refine alts_one e fun hob => ⟨rfl, sh ?_⟩
      have hob : 0 ≤ n := hob
      simp only [binOp, Op.shift, if_neg (show ¬ n < 0 by omega)]; rfl
    · rename_i h1 h2
      split at e
      · rename_i hk
        subst hk
        exact symInt_ok ho hx hy ⟨fun e => h1 e, fun e => h2 e⟩ e
      · cases e
  · rename_i m n hx hy
    exact symStr_ok ho hx hy e
  · rename_i m n hx hy
    exact symFlo_ok ho hx hy e
  · rename_i a b a' b' hx hy
    exact symCom_ok ho hx hy e
  · cases e

theorem bound_ok {ρ : Operand → Value} {x : Option Operand} {dflt most y : Nat} {ob : Prop} (e : symBound std (x.map ρ) dflt most = some (ob, y)) (hob : ob) : boundA (x.map fun x => den (ρ x)) dflt most = some y := by
  unfold symBound at e
  split at e
  · rename_i hx
    cases x with
    | some x => simp at hx
    | none => simp only [Option.some.injEq, Prod.mk.injEq] at e; rw [← e.2]; rfl
  · rename_i v hx
    cases x with
    | none => simp at hx
    | some x =>
      simp at hx; subst hx
      split at e
      · rename_i k n hd
        simp only [Option.some.injEq, Prod.mk.injEq] at e
        obtain ⟨rfl, rfl⟩ := e
        have h1 : 0 ≤ n ∧ n ≤ (most : Int) := hob
        simp only [Option.map_some, hd, boundA]
        rw [if_pos h1]; rfl
      · cases e

theorem isStrT_eq {t : TypeId} (h : isStrT P t = true) : P.underlying t = some .string := by
  unfold isStrT at h
  split at h
  · assumption
  · cases h
theorem part_string {t : TypeId} (h : P.underlying t = some .string) {cs : Array Value} {i : Nat} {v : Value} (hv : cs[i]? = some v) (w : World) : (part t cs i).run P w = .ok v w := by
  unfold part
  simp only [Sem.run_bind, isAgg_run h, Result.andThen_ok]
  rw [show isAggD .string = false from rfl]
  simp only [Bool.false_eq_true, if_false, hv, Sem.run_pure]
theorem pair_equal {t : TypeId} (ht : pairTy P t = true) (p q r s : ByteArray) (w : World) : (Op.equalIn 10000 t (.agg #[.string p, .string q]) (.agg #[.string r, .string s])).run P w = .ok (std.seq p r && std.seq q s) w := by
  unfold pairTy at ht
  split at ht
  case h_2 => cases ht
  rename_i fs hu
  split at ht
  case h_2 => cases ht
  rename_i f g hfs
  simp only [Bool.and_eq_true, Bool.not_eq_true', bne_iff_ne, ne_eq, beq_iff_eq] at ht
  obtain ⟨⟨⟨⟨⟨⟨⟨h1, h2⟩, h3⟩, h4⟩, h5⟩, h6⟩, h7⟩, h8⟩ := ht
  have hf : P.fieldsOf t = fs := by unfold Program.fieldsOf; rw [hu]
  rw [show (10000 : Nat) = 9999 + 1 from rfl, run_equalIn_struct w 9999 t _ _ (by rw [hf]; exact hu) h7, hf, hfs]
  have eqs : ∀ a b : ByteArray, (a.toList == b.toList) = std.seq a b := by
    intro a b
    show _ = (a.data.toList == b.data.toList)
    rw [ByteArray.toList_eq, ByteArray.toList_eq]
  have e1 := isStrT_eq h5
  have e2 := isStrT_eq h6
  unfold Op.eqFields
  rw [if_pos h1]
  simp only [Sem.run_bind, h3, part_string e1 (cs := #[.string p, .string q]) (i := 0) (v := .string p) rfl, part_string e1 (cs := #[.string r, .string s]) (i := 0) (v := .string r) rfl, Result.andThen_ok]
  rw [run_equalIn_string w 9998 f.type p r e1, eqs]
  simp only [Result.andThen_ok]
  cases std.seq p r
  · rfl
  · unfold Op.eqFields
    rw [if_pos h2]
    simp only [Bool.not_true, Bool.false_eq_true, if_false, Sem.run_bind, h4, part_string e2 (cs := #[.string p, .string q]) (i := 1) (v := .string q) rfl, part_string e2 (cs := #[.string r, .string s]) (i := 1) (v := .string s) rfl, Result.andThen_ok]
    rw [run_equalIn_string w 9998 g.type q s e2, eqs]
    simp only [Result.andThen_ok]
    cases std.seq q s <;> rfl
theorem vr_pair {xs : Array Value} {u1 u2 v : Value} {p q : ByteArray} (h : VR μ (.agg xs) v) (hx : xs.toList = [u1, u2]) (h1 : den u1 = .string p) (h2 : den u2 = .string q) : v = .agg #[.string p, .string q] := by
  obtain ⟨ys, rfl, hys⟩ := h.inv_agg
  rw [hx] at hys
  obtain ⟨y1, m1, g1, q1, hys⟩ := hys.inv_cons
  obtain ⟨y2, m2, g2, q2, hys⟩ := hys.inv_cons
  have g3 := hys.inv_nil
  have r1 := (VR.a (VRa.one q1)).den
  have r2 := (VR.a (VRa.one q2)).den
  rw [h1] at r1; rw [h2] at r2
  rw [vr_plain_eq r1 rfl] at g1
  rw [vr_plain_eq r2 rfl] at g2
  subst g3; subst g2
  exact congrArg Value.agg (Array.toList_inj.1 g1)
theorem symAgg_ok {ρ : Operand → Value} {o : Oper} {op : BinOp} {t : TypeId} {x y : Operand} {c : TypeId} {h : Hp} {alts : List Alt} (ho : o.op = .binOp op t x y c)
    (e : symAgg std P h op t (ρ x) (ρ y) = some alts) : AltsOk alts fun a => a.h = h ∧ SemT P ρ o a.v := by
  unfold symAgg at e
  split at e
  case h_2 => cases e
  rename_i xs ys hx hy
  split at e
  case h_2 => cases e
  rename_i u1 u2 w1 w2 hxs hys
  split at e
  case h_2 => cases e
  rename_i p q r s d1 d2 d3 d4
  split at e
  case isFalse => cases e
  rename_i ht
  have hg : P.eqGuardType P.depth t = false := by
    unfold pairTy at ht
    split at ht
    case h_2 => cases ht
    split at ht
    case h_2 => cases ht
    simp only [Bool.and_eq_true, Bool.not_eq_true'] at ht
    exact ht.2
  have key : ∀ (b : Bool), (∀ w : World, (binOp op t (.agg #[.string p, .string q]) (.agg #[.string r, .string s])).run P w = .ok (.bool b) w) → SemT P ρ o (.bool b) := by
    intro b hb μ ρ' w hr
    have r1 := hr x (by rw [ho]; simp [Op.operands])
    have r2 := hr y (by rw [ho]; simp [Op.operands])
    rw [hx] at r1; rw [hy] at r2
    have e1 := vr_pair r1 hxs d1 d2
    have e2 := vr_pair r2 hys d3 d4
    refine ⟨.bool b, ?_, .plain1 rfl⟩
    obtain ⟨dst, op', ty, pos, after, guard⟩ := o
    simp only at ho
    subst ho
    simp only [execOp, e1, e2, Sem.run_bind, run_eqGuard_agg w op t x y _ _ hg, Result.andThen_ok, hb w]
    rfl
  have heq : ∀ w : World, (binOp .eql t (.agg #[.string p, .string q]) (.agg #[.string r, .string s])).run P w = .ok (.bool (std.seq p r && std.seq q s)) w := fun w => by
    rw [run_eql_struct, pair_equal ht]; rfl
  have hne : ∀ w : World, (binOp .neq t (.agg #[.string p, .string q]) (.agg #[.string r, .string s])).run P w = .ok (.bool (!(std.seq p r && std.seq q s))) w := fun w => by
    rw [run_neq_struct, pair_equal ht]; rfl
  split at e
  · have k : SemT P ρ o (.bool (std.seq p r && std.seq q s)) := @key _ heq
    exact alts_two e (fun hb => by rw [hb] at k; exact ⟨rfl, @k⟩) (fun hb => by rw [hb] at k; exact ⟨rfl, @k⟩)
  · have k : SemT P ρ o (.bool (!(std.seq p r && std.seq q s))) := @key _ hne
    exact alts_two e (fun hb => by rw [hb] at k; exact ⟨rfl, @k⟩) (fun hb => by rw [hb] at k; exact ⟨rfl, @k⟩)
  · cases e

theorem numsOf_len {k : IntKind} : ∀ {vs : List Value} {l : List Int}, numsOf k vs = some l → vs.length = l.length
  | [], l, h => by simp only [numsOf, Option.some.injEq] at h; subst h; rfl
  | v :: vs, l, h => by
    unfold numsOf at h
    split at h
    case h_2 => cases h
    split at h
    case isFalse => cases h
    split at h
    case h_2 => cases h
    rename_i m hm
    simp only [Option.some.injEq] at h; subst h
    rw [List.length_cons, List.length_cons, numsOf_len hm]
theorem numsOf_vr {k : IntKind} : ∀ {vs : List Value} {l : List Int} {ws : List Value}, numsOf k vs = some l → All2 (VR1 μ) vs ws → ws = l.map (Value.int k)
  | [], l, ws, h, hv => by simp only [numsOf, Option.some.injEq] at h; subst h; exact hv.inv_nil
  | v :: vs, l, ws, h, hv => by
    unfold numsOf at h
    split at h
    case h_2 => cases h
    rename_i k' n hd
    split at h
    case isFalse => cases h
    rename_i hk
    subst hk
    split at h
    case h_2 => cases h
    rename_i m hm
    simp only [Option.some.injEq] at h; subst h
    obtain ⟨w, ws', rfl, r, hv⟩ := hv.inv_cons
    have r1 := (VR.a (VRa.one r)).den
    rw [hd] at r1
    rw [List.map_cons, vr_plain_eq r1 rfl, numsOf_vr hm hv]
theorem eqItems_ints {d : Nat} {e : TypeId} {k : IntKind} (he : P.underlying e = some (.int k)) (l m : List Int) (w : World) : ∀ (is : List Nat), (∀ i ∈ is, i < l.length ∧ i < m.length) →
    (Op.eqItems (d + 1) e 1 (l.map (Value.int k)).toArray (m.map (Value.int k)).toArray is).run P w = .ok (is.all fun i => l.getD i 0 == m.getD i 0) w
  | [], _ => rfl
  | i :: is, h => by
    obtain ⟨h1, h2⟩ := h i List.mem_cons_self
    have pt : ∀ {q : List Int}, i < q.length → (part e (q.map (Value.int k)).toArray (i * 1)).run P w = .ok (.int k (q.getD i 0)) w := by
      intro q hq
      unfold part
      simp only [Sem.run_bind, isAgg_run he, Result.andThen_ok]
      rw [show isAggD (.int k) = false from rfl, Nat.mul_one]
      have : (q.map (Value.int k)).toArray[i]? = some (.int k (q.getD i 0)) := by
        rw [List.getElem?_toArray, List.getElem?_map, List.getD_eq_getElem?_getD, List.getElem?_eq_getElem hq]; rfl
      simp only [Bool.false_eq_true, if_false, this, Sem.run_pure]
    unfold Op.eqItems
    simp only [Sem.run_bind, pt h1, pt h2, Result.andThen_ok, run_equalIn_int w d e k k _ _ he]
    rw [List.all_cons]
    cases hb : (l.getD i 0 == m.getD i 0)
    · rfl
    · simp only [Bool.not_true, Bool.false_eq_true, if_false, Bool.true_and]
      exact eqItems_ints he l m w is fun j hj => h j (List.mem_cons_of_mem _ hj)
theorem all_leq {l m : List Int} {n : Nat} (hl : l.length = n) (hm : m.length = n) : ((List.range n).all fun i => l.getD i 0 == m.getD i 0) = std.leq l m := by
  show _ = (l == m)
  rw [Bool.eq_iff_iff, List.all_eq_true, beq_iff_eq]
  constructor
  · intro h
    refine List.ext_getElem (by omega) fun i h1 h2 => ?_
    have := beq_iff_eq.1 (h i (List.mem_range.2 (by omega)))
    rw [List.getD_eq_getElem?_getD, List.getD_eq_getElem?_getD, List.getElem?_eq_getElem h1, List.getElem?_eq_getElem h2] at this
    exact this
  · rintro rfl i _
    exact beq_self_eq_true _
theorem symArr_ok {ρ : Operand → Value} {o : Oper} {op : BinOp} {t : TypeId} {x y : Operand} {c : TypeId} {h : Hp} {alts : List Alt} (ho : o.op = .binOp op t x y c)
    (e : symArr std P h op t (ρ x) (ρ y) = some alts) : AltsOk alts fun a => a.h = h ∧ SemT P ρ o a.v := by
  unfold symArr at e
  split at e
  case h_2 => cases e
  rename_i n el hu
  split at e
  case h_2 => cases e
  rename_i k xs ys he hsz hx hy
  split at e
  case h_2 => cases e
  rename_i l m hl hm
  split at e
  case isFalse => cases e
  rename_i hc
  obtain ⟨hln, hmn, hg⟩ := hc
  have hi : ∃ i, P.info? el = some i ∧ i.size = 1 := by
    unfold szA at hsz
    cases hi : P.info? el with
    | none => simp [hi] at hsz
    | some i => simp [hi] at hsz; exact ⟨i, rfl, hsz⟩
  obtain ⟨i, hi, hi1⟩ := hi
  have hcell : P.cellsOf el = 1 := by unfold Program.cellsOf; rw [hi]; exact hi1
  have hall : ∀ i ∈ List.range n, i < l.length ∧ i < m.length := fun i h => by have := List.mem_range.1 h; omega
  have key : ∀ (b : Bool), (∀ w : World, (binOp op t (.agg (l.map (Value.int k)).toArray) (.agg (m.map (Value.int k)).toArray)).run P w = .ok (.bool b) w) → SemT P ρ o (.bool b) := by
    intro b hb μ ρ' w hr
    have r1 := hr x (by rw [ho]; simp [Op.operands])
    have r2 := hr y (by rw [ho]; simp [Op.operands])
    rw [hx] at r1; rw [hy] at r2
    obtain ⟨xs', e1, hx'⟩ := r1.inv_agg
    obtain ⟨ys', e2, hy'⟩ := r2.inv_agg
    have e3 : xs' = (l.map (Value.int k)).toArray := Array.toList_inj.1 (numsOf_vr hl hx')
    have e4 : ys' = (m.map (Value.int k)).toArray := Array.toList_inj.1 (numsOf_vr hm hy')
    subst e3; subst e4
    refine ⟨.bool b, ?_, .plain1 rfl⟩
    obtain ⟨dst, op', ty, pos, after, guard⟩ := o
    simp only at ho
    subst ho
    simp only [execOp, e1, e2, Sem.run_bind, run_eqGuard_agg w op t x y _ _ hg, Result.andThen_ok, hb w]
    rfl
  have heq : ∀ w : World, (Op.equalIn 10000 t (.agg (l.map (Value.int k)).toArray) (.agg (m.map (Value.int k)).toArray)).run P w = .ok (std.leq l m) w := fun w => by
    rw [show (10000 : Nat) = 9999 + 1 from rfl, run_equalIn_array w 9999 _ _ hu hi, hcell, show (9999 : Nat) = 9998 + 1 from rfl, eqItems_ints he l m w _ hall, all_leq hln hmn]
  split at e
  · have kk : SemT P ρ o (.bool (std.leq l m)) := @key _ fun w => by rw [run_eql_struct, heq]; rfl
    exact alts_two e (fun hb => by rw [hb] at kk; exact ⟨rfl, @kk⟩) (fun hb => by rw [hb] at kk; exact ⟨rfl, @kk⟩)
  · have kk : SemT P ρ o (.bool (!(std.leq l m))) := @key _ fun w => by rw [run_neq_struct, heq]; rfl
    exact alts_two e (fun hb => by rw [hb] at kk; exact ⟨rfl, @kk⟩) (fun hb => by rw [hb] at kk; exact ⟨rfl, @kk⟩)
  · cases e

theorem isUnk_unk (n : Nat) : isUnk (unk n) = true := by unfold isUnk unk; simp

theorem symSlice_ok {ρ : Operand → Value} {o : Oper} {t : TypeId} {x : Operand} {lo hi : Option Operand} {h : Hp} {alts : List Alt} (ho : o.op = .slice t x lo hi none)
    (e : symSlice std P h t (ρ x) (lo.map ρ) (hi.map ρ) = some alts) : AltsOk alts fun a => a.h = h ∧ SemT P ρ o a.v := by
  have mkT : ∀ {v raw : Value}, sliceA P t (den (ρ x)) (lo.map fun x => den (ρ x)) (hi.map fun x => den (ρ x)) none = some raw → Marks v raw → SemT P ρ o v := by
    intro v raw h1 h3
    refine semT_of (raw := raw) ?_ h3
    unfold stepT
    rw [ho]
    exact h1
  unfold symSlice at e
  split at e
  · rename_i s hu hx
    split at e
    · rename_i o1 b hb
      split at e
      · rename_i o2 a ha
        refine alts_one e fun hob => ⟨rfl, mkT (raw := .string (std.ssub s a b)) ?_ (.inr ⟨rfl, rfl⟩)⟩
        unfold sliceA
        rw [hu, hx]
        simp only
        have e1 : boundA (hi.map fun x => den (ρ x)) s.data.toList.length s.data.toList.length = some b := bound_ok hb hob.1
        rw [e1]
        simp only
        rw [bound_ok ha hob.2]
        rfl
      · cases e
    · cases e
  · rename_i elem b o len cap hu hx
    split at e
    · rename_i sz hsz
      split at e
      · rename_i hcap
        subst hcap
        split at e
        · rename_i o1 y hy
          split at e
          · rename_i o2 z hz
            refine alts_one e fun hob => ⟨rfl, mkT (raw := .slice (some ⟨b, std.nadd o (std.nmul z sz), none⟩) (std.nsub y z) (unk sz)) ?_ (.inr ⟨rfl, rfl⟩)⟩
            unfold sliceA
            rw [hu, hx]
            simp only [hsz, sliceRow, isUnk_unk, if_true]
            rw [bound_ok hy hob.1]
            simp only
            rw [bound_ok hz hob.2]
            simp only
            rfl
          · cases e
        · cases e
      · split at e
        · cases e
        · rename_i hlo
          split at e
          · cases e
          · rename_i hun
            split at e
            · rename_i o1 y hy
              have hl : lo = none := by
                cases lo with
                | none => rfl
                | some _ => simp at hlo
              subst hl
              refine alts_one e fun hob => ⟨rfl, mkT (raw := .slice (some ⟨b, o, none⟩) y cap) ?_ (.inr ⟨rfl, rfl⟩)⟩
              unfold sliceA
              rw [hu, hx]
              simp only [hsz, sliceRow, hun, if_false, Bool.false_eq_true]
              rw [bound_ok hy hob]
              simp [boundA]
            · cases e
    · cases e
  · cases e

theorem symIdx_ok {ρ : Operand → Value} {o : Oper} {t : TypeId} {x i : Operand} {h : Hp} {alts : List Alt} (ho : o.op = .indexAddr t x i)
    (e : symIdx std P h t (ρ x) (ρ i) = some alts) : AltsOk alts fun a => a.h = h ∧ SemT P ρ o a.v := by
  have mkT : ∀ {v raw : Value}, indexAddrA P t (den (ρ x)) (den (ρ i)) = some raw → Marks v raw → SemT P ρ o v := by
    intro v raw h1 h3
    refine semT_of (raw := raw) ?_ h3
    unfold stepT
    rw [ho]
    exact h1
  unfold symIdx at e
  split at e
  · rename_i k n hi
    split at e
    all_goals try (cases e; done)
    all_goals split at e
    all_goals try (cases e; done)
    · rename_i hu hx _ sz hsz
      refine alts_one e fun hob => ⟨rfl, mkT ?_ (.inr ⟨rfl, rfl⟩)⟩
      unfold indexAddrA
      rw [hi, hu, hx]
      simp only [hsz]
      exact if_pos hob
    · rename_i hu hx _ sz hsz
      refine alts_one e fun hob => ⟨rfl, mkT ?_ (.inr ⟨rfl, rfl⟩)⟩
      unfold indexAddrA
      rw [hi, hu, hx]
      simp only [hsz]
      exact if_pos hob
  · cases e

theorem symT_ok {ρ : Operand → Value} {o : Oper} {h : Hp} {alts : List Alt} (e : symT std P ρ o h = some alts) : kindOf P o.op = .T ∧ AltsOk alts fun a => a.h = h ∧ SemT P ρ o a.v := by
  unfold symT at e
  have mkT : ∀ {v raw : Value}, stepT P (fun x => den (ρ x)) o = some raw → Marks v raw → SemT P ρ o v := fun h1 h3 => semT_of h1 h3
  split at e
  · rename_i op t x y rt ho
    refine ⟨by rw [ho]; rfl, ?_⟩
    split at e
    · rename_i a ha
      simp only [Option.some.injEq] at e; subst e
      exact symBin_ok ho ha
    split at e
    · rename_i a ha
      simp only [Option.some.injEq] at e; subst e
      exact symAgg_ok ho ha
    split at e
    · rename_i a ha
      simp only [Option.some.injEq] at e; subst e
      exact symArr_ok ho ha
    · have fin : ∀ {v : Value}, binA P op t x y (den (ρ x)) (den (ρ y)) = some v → SemT P ρ o v := fun hb => mkT (by unfold stepT; rw [ho]; exact hb) (.inl rfl)
      split at e
      · split at e
        · rename_i v hv
          exact alts_pure e ⟨rfl, fin hv⟩
        · cases e
      · split at e
        · rename_i v hv
          exact alts_pure e ⟨rfl, fin hv⟩
        · cases e
      · cases e
  · rename_i op ty x ho
    refine ⟨by rw [ho]; rfl, ?_⟩
    split at e
    · rename_i n hx
      refine alts_one e fun hob => ⟨rfl, mkT (raw := .int .i64 (std.neg n)) ?_ (.inr ⟨rfl, rfl⟩)⟩
      have hob : -9223372036854775808 ≤ -n ∧ -n ≤ 9223372036854775807 := hob
      unfold stepT
      rw [ho]
      simp only [hx, plainV, plain1, if_true]
      show filterPlain (some (Value.int IntKind.i64 (IntKind.i64.wrap (0 - n)))) = _
      rw [show (0 - n : Int) = -n by omega, wrap_i64 hob]; rfl
    · rename_i k n hx
      refine alts_pure e ⟨rfl, mkT (raw := .int k (std.bxor k (if k.signed then -1 else k.max) n)) ?_ (.inr ⟨rfl, rfl⟩)⟩
      unfold stepT
      rw [ho]
      simp only [hx, plainV, plain1, if_true]
      rfl
    · cases e
  · rename_i src dst x ho
    split at e
    · rename_i k0 k' k n hs hd hx
      refine ⟨by rw [ho]; simp only [kindOf, hs, hd], alts_pure e ⟨rfl, mkT (raw := .int k' (std.wrap k' n)) ?_ (.inr ⟨rfl, rfl⟩)⟩⟩
      unfold stepT
      rw [ho]
      simp only [hx, plainV, plain1, if_true]
      have : evalSem P (convert src dst (.int k n)) = some (.int k' (k'.wrap n)) := by
        unfold convert
        rw [evalSem_bind, evalSem_underlying hs, Option.bind_some, evalSem_bind, evalSem_underlying hd]
        rfl
      rw [this]; rfl
    · rename_i s hs hd hx
      refine ⟨by rw [ho]; simp only [kindOf, hs, hd], alts_pure e ⟨rfl, mkT (raw := .string s) ?_ (.inr ⟨rfl, rfl⟩)⟩⟩
      unfold stepT
      rw [ho]
      simp only [hx, plainV, plain1, if_true]
      have : evalSem P (convert src dst (.string s)) = some (.string s) := by
        unfold convert
        rw [evalSem_bind, evalSem_underlying hs, Option.bind_some, evalSem_bind, evalSem_underlying hd]
        rfl
      rw [this]; rfl
    · rename_i k0 k n hs hd hx
      refine ⟨by rw [ho]; simp only [kindOf, hs, hd], alts_pure e ⟨rfl, mkT (raw := .float .f64 (std.fof n)) ?_ (.inr ⟨rfl, rfl⟩)⟩⟩
      unfold stepT
      rw [ho]
      simp only [hx, plainV, plain1, if_true]
      have : evalSem P (convert src dst (.int k n)) = some (.float .f64 (FloatKind.f64.nearest n)) := by
        unfold convert
        rw [evalSem_bind, evalSem_underlying hs, Option.bind_some, evalSem_bind, evalSem_underlying hd]
        rfl
      rw [this]; rfl
    · rename_i k0 b hs hd hx
      refine ⟨by rw [ho]; simp only [kindOf, hs, hd], alts_one e fun hob => ⟨rfl, mkT (raw := .int .i64 (std.fint b)) ?_ (.inr ⟨rfl, rfl⟩)⟩⟩
      obtain ⟨h1, h2, h3⟩ := hob
      unfold stepT
      rw [ho]
      simp only [hx, plainV, plain1, if_true]
      have : evalSem P (convert src dst (.float .f64 b)) = some (.int .i64 (((Ieee.double.read b).toInt .zero).getD 0)) := by
        unfold convert
        rw [evalSem_bind, evalSem_underlying hs, Option.bind_some, evalSem_bind, evalSem_underlying hd]
        show evalSem P (Conv.floatToInt .f64 b .i64) = _
        unfold Conv.floatToInt
        have h1' : (FloatKind.f64.decode b).toInt .zero = some (((Ieee.double.read b).toInt .zero).getD 0) := h1
        simp only [h1']
        rw [if_pos ⟨h2, h3⟩]
        rfl
      rw [this]; rfl
    · cases e
  · rename_i ho
    exact ⟨by rw [ho]; rfl, symSlice_ok ho e⟩
  · rename_i ho
    exact ⟨by rw [ho]; rfl, symIdx_ok ho e⟩
  · rename_i t x i ho
    refine ⟨by rw [ho]; rfl, ?_⟩
    split at e
    · rename_i s k n hu hx hi
      refine alts_one e fun hob => ⟨rfl, mkT (raw := .int .u8 (std.sget s (std.nat n))) ?_ (.inr ⟨rfl, rfl⟩)⟩
      have hob : 0 ≤ n ∧ n < ((s.data.toList.length : Nat) : Int) := hob
      unfold stepT
      rw [ho]
      simp only [hx, hi, indexA, hu]
      rw [if_pos hob.1, List.getElem?_eq_getElem (show n.toNat < s.data.toList.length by omega)]
      show some (Value.int .u8 _) = some (Value.int .u8 ((s.data.toList.getD n.toNat 0).toNat : Int))
      rw [List.getD_eq_getElem?_getD, List.getElem?_eq_getElem (show n.toNat < s.data.toList.length by omega)]
      rfl
    · cases e
  · rename_i s x f ho
    refine ⟨by rw [ho]; rfl, ?_⟩
    split at e
    · rename_i b o' fs hx hu
      split at e
      · rename_i fd hfd
        split at e
        · rename_i m hm
          refine alts_pure e ⟨rfl, mkT (raw := .pointer (some ⟨b, std.nadd o' fd.offset, none⟩)) ?_ (.inr ⟨rfl, rfl⟩)⟩
          unfold stepT
          rw [ho]
          simp only [hx, fieldAddrA, hu, hfd, hm]
          rfl
        · cases e
      · cases e
    · cases e
  · rename_i x ho
    refine ⟨by rw [ho]; rfl, ?_⟩
    split at e
    · rename_i a hx
      refine alts_pure e ⟨rfl, mkT (raw := .pointer (some a)) ?_ (.inr ⟨rfl, rfl⟩)⟩
      unfold stepT
      rw [ho]
      simp only [hx]
    · cases e
  · rename_i args argTypes ho
    split at e
    · rename_i t ht
      split at e
      · rename_i s hu hl
        refine ⟨by rw [ho]; simp only [kindOf, ht, Option.bind_some, hu], alts_pure e ⟨rfl, mkT (raw := goInt (std.slen s)) ?_ (.inr ⟨rfl, rfl⟩)⟩⟩
        unfold stepT
        rw [ho]
        simp only [builtinT, ht, hu, hl]
        rfl
      · rename_i el a n k hu hl
        refine ⟨by rw [ho]; simp only [kindOf, ht, Option.bind_some, hu], alts_pure e ⟨rfl, mkT (raw := .int .i64 (std.int n)) ?_ (.inr ⟨rfl, rfl⟩)⟩⟩
        unfold stepT
        rw [ho]
        simp only [builtinT, ht, hu, hl]
        rfl
      · cases e
    · cases e
  · rename_i args argTypes ho
    refine ⟨by rw [ho]; rfl, ?_⟩
    split at e
    · rename_i k m k' n hl
      split at e
      · rename_i hk
        refine alts_pure e ⟨rfl, mkT (raw := .int k (std.imin m n)) ?_ (.inr ⟨rfl, rfl⟩)⟩
        unfold stepT
        rw [ho]
        simp only [builtinT, hl]
        rfl
      · cases e
    · cases e
  · rename_i args argTypes ho
    refine ⟨by rw [ho]; rfl, ?_⟩
    split at e
    · rename_i k m k' n hl
      split at e
      · rename_i hk
        refine alts_pure e ⟨rfl, mkT (raw := .int k (std.imax m n)) ?_ (.inr ⟨rfl, rfl⟩)⟩
        unfold stepT
        rw [ho]
        simp only [builtinT, hl]
        rfl
      · cases e
    · cases e
  · rename_i args argTypes ho
    refine ⟨by rw [ho]; rfl, ?_⟩
    split at e
    · rename_i m n hl
      refine alts_pure e ⟨rfl, mkT (raw := .complex .f64 m n) ?_ (.inr ⟨rfl, rfl⟩)⟩
      unfold stepT
      rw [ho]
      simp only [builtinT, hl]
      rfl
    · cases e
  · rename_i args argTypes ho
    refine ⟨by rw [ho]; rfl, ?_⟩
    split at e
    · rename_i m n hl
      refine alts_pure e ⟨rfl, mkT (raw := .float .f64 m) ?_ (.inr ⟨rfl, rfl⟩)⟩
      unfold stepT
      rw [ho]
      simp only [builtinT, hl]
      rfl
    · cases e
  · rename_i args argTypes ho
    refine ⟨by rw [ho]; rfl, ?_⟩
    split at e
    · rename_i m n hl
      refine alts_pure e ⟨rfl, mkT (raw := .float .f64 n) ?_ (.inr ⟨rfl, rfl⟩)⟩
      unfold stepT
      rw [ho]
      simp only [builtinT, hl]
      rfl
    · cases e
  · cases e
end
end Go.Abs
end
section
namespace Go.Abs
open Go

/-- Cells without marks. -/
def Blk.view : Blk → Blk
  | .cells cs ro => .cells (cs.map den) ro
  | .row r ro => .cells (r.cells.map den) ro
  | x => x
def Tr.view : Tr → Tr
  | .leaf => .leaf
  | .node l v r => .node l.view (v.map Blk.view) r.view
def Hp.view (h : Hp) : Hp := ⟨h.next, h.tab.view⟩

theorem Tr.get_view : ∀ (t : Tr) (i : Nat), t.view.get i = (t.get i).map Blk.view
  | .leaf, i => rfl
  | .node l v r, i => by
    rw [Tr.get_eq, Tr.get_eq (.node l v r)]
    split
    · rfl
    · split
      · exact Tr.get_view l _
      · exact Tr.get_view r _
theorem Hp.get_view (h : Hp) (b : Nat) : h.view.get b = (h.get b).map Blk.view := by
  unfold Hp.get Hp.view
  simp only
  split
  · exact Tr.get_view _ _
  · rfl

theorem pairs_cons (x : ByteArray × ByteArray) (xs : List (ByteArray × ByteArray)) : (Row.pairs (x :: xs)).cells = .string x.1 :: .string x.2 :: (Row.pairs xs).cells := rfl
theorem pairs_nil : (Row.pairs []).cells = [] := rfl
theorem view_row (r : Row) (ro : Bool) : (Blk.row r ro).view = .cells (r.cells.map den) ro := rfl
theorem view_cells (cs : List Value) (ro : Bool) : (Blk.cells cs ro).view = .cells (cs.map den) ro := rfl

theorem den_plain {v : Value} (h : plain1 v = true) : den v = v := by
  unfold den
  split
  · rename_i first cap
    simp only [plain1, Bool.and_eq_true, Array.isEmpty_iff] at h
    obtain ⟨rfl, rfl⟩ := h
    rfl
  · rfl
theorem den_norm1 (z x : Value) : den (norm1 z x) = norm1 z x := by
  unfold norm1
  split <;> first | rfl | skip
  split
  · rename_i h; exact den_plain h
  · rfl
theorem den_cellsN (z x : Value) : (cellsN z x).map den = cellsN z x := by
  unfold cellsN
  split
  · rw [List.map_map]
    apply List.map_congr_left
    intro p _
    exact den_norm1 _ _
  · rw [List.map_cons, List.map_nil, den_norm1]
theorem den_flatN (z : Value) : ∀ xs : List Value, (flatN z xs).map den = flatN z xs
  | [] => rfl
  | x :: xs => by
    show ((cellsN z x) ++ flatN z xs).map den = cellsN z x ++ flatN z xs
    rw [List.map_append, den_cellsN, den_flatN z xs]
theorem row_den (r : Row) : r.cells.map den = r.cells := by
  have h1 : ∀ (k : IntKind) (xs : List Int), (xs.map (Value.int k)).map den = xs.map (Value.int k) := by
    intro k xs; rw [List.map_map]; congr 1
  cases r with
  | ints k xs => exact h1 k xs
  | bools xs => unfold Row.cells; rw [List.map_map]; congr 1
  | strs xs => unfold Row.cells; rw [List.map_map]; congr 1
  | pairs xs =>
    induction xs with
    | nil => rfl
    | cons x xs ih => rw [pairs_cons, List.map_cons, List.map_cons, ih]; rfl
  | vals z xs => exact den_flatN z xs

section
variable {P : Program} {μ : Mu} {base : Nat} {w : World}

theorem owns_view (x : Blk) : ownB x.view = ownB x := by cases x <;> rfl

theorem cells_view {p : Pl} {cs : List Value} {arr : Array Value} :
    (∀ i v, (cs.map den)[i]? = some v → ∃ v', arr[p.s + i]? = some v' ∧ VR1 μ v v') ↔ (∀ i v, cs[i]? = some v → ∃ v', arr[p.s + i]? = some v' ∧ VR1 μ v v') := by
  constructor
  · intro h i v hv
    obtain ⟨v', h1, h2⟩ := h i (den v) (by rw [List.getElem?_map, hv]; rfl)
    exact ⟨v', h1, VR1.den_iff.1 h2⟩
  · intro h i v hv
    rw [List.getElem?_map] at hv
    cases e : cs[i]? with
    | none => rw [e] at hv; cases hv
    | some u =>
      rw [e] at hv; simp at hv; subst hv
      obtain ⟨v', h1, h2⟩ := h i u e
      exact ⟨v', h1, VR1.den_iff.2 h2⟩

theorem BR_view {p : Pl} (x : Blk) : BR μ base w p x.view ↔ BR μ base w p x := by
  cases x with
  | map es ck => exact Iff.rfl
  | smap kz vz es => exact Iff.rfl
  | cells cs ro =>
    show BR μ base w p (.cells (cs.map den) ro) ↔ _
    unfold BR
    simp only [cells_view, List.length_map]
  | row r ro =>
    show BR μ base w p (.cells (r.cells.map den) ro) ↔ _
    unfold BR
    simp only [cells_view, List.length_map]

theorem map_view {o : Option Blk} {y : Blk} (h : o.map Blk.view = some y) : ∃ x, o = some x ∧ y = x.view := by
  cases o with
  | none => cases h
  | some x => simp at h; exact ⟨x, rfl, h.symm⟩

theorem Rel.view {h h' : Hp} (hv : ∀ b, h'.get b = (h.get b).map Blk.view) : Rel μ base h'.get w ↔ Rel μ base h.get w := by
  constructor
  · intro r
    refine ⟨r.size, fun b p x hb hx => (BR_view x).1 (r.blk b p _ hb (by rw [hv, hx]; rfl)), fun b b' p p' x x' h1 h2 h3 h4 h5 h6 => ?_, fun c i a hc => ⟨(r.frz c i a hc).1, fun b p x hb hx ho => (r.frz c i a hc).2 b p x.view hb (by rw [hv, hx]; rfl) (by rw [owns_view]; exact ho)⟩⟩
    exact r.inj b b' p p' x.view x'.view h1 h2 (by rw [hv, h3]; rfl) (by rw [hv, h4]; rfl) h5 (by rw [owns_view]; exact h6)
  · intro r
    refine ⟨r.size, fun b p y hb hy => ?_, fun b b' p p' y y' h1 h2 h3 h4 h5 h6 => ?_, fun c i a hc => ⟨(r.frz c i a hc).1, fun b p y hb hy ho => ?_⟩⟩
    · rw [hv] at hy
      obtain ⟨x, hx, rfl⟩ := map_view hy
      exact (BR_view x).2 (r.blk b p x hb hx)
    · rw [hv] at h3 h4
      obtain ⟨x, hx, rfl⟩ := map_view h3
      obtain ⟨x', hx', rfl⟩ := map_view h4
      exact r.inj b b' p p' x x' h1 h2 hx hx' h5 (by rw [← owns_view]; exact h6)
    · rw [hv] at hy
      obtain ⟨x, hx, rfl⟩ := map_view hy
      exact (r.frz c i a hc).2 b p x hb hx (by rw [← owns_view]; exact ho)
theorem Rel.ofView {h : Hp} (r : Rel μ base h.get w) : Rel μ base h.view.get w := (Rel.view h.get_view).2 r

/-- What holds of the heaps without marks holds of the heaps. -/
theorem Sim.unview {μ' : Mu} {h hv' h' : Hp} {w' : World} (hg : ∀ b, hv'.get b = (h'.get b).map Blk.view) (s : Sim μ base h.view.get w μ' hv'.get w') : Sim μ base h.get w μ' h'.get w' := by
  refine ⟨s.le, (Rel.view hg).1 s.rel, ⟨s.fr.os, s.fr.tape, s.fr.output, s.fr.size, fun c hc hno => ?_⟩, fun b p x hp hx => ?_, fun c i a hc => ?_⟩
  · refine s.fr.block c hc fun b p y h1 h2 h3 => ?_
    rw [h.get_view] at h2
    obtain ⟨x, hx, rfl⟩ := map_view h2
    exact hno b p x h1 hx (by rw [← owns_view]; exact h3)
  · rcases s.own b p x.view hp (by rw [hg, hx]; rfl) with h1 | ⟨b0, p0, y0, h1, h2, h3, h4⟩
    · exact .inl h1
    · rw [h.get_view] at h2
      obtain ⟨x0, hx0, rfl⟩ := map_view h2
      exact .inr ⟨b0, p0, x0, h1, hx0, fun ho => by rw [← owns_view]; exact h3 (by rw [owns_view]; exact ho), h4⟩
  · rcases s.fz c i a hc with h1 | h1 | ⟨b0, p0, y0, h1, h2, ho, h3⟩
    · exact .inl h1
    · exact .inr (.inl h1)
    · rw [h.get_view] at h2
      obtain ⟨x0, hx0, rfl⟩ := map_view h2
      exact .inr (.inr ⟨b0, p0, x0, h1, hx0, by rw [← owns_view]; exact ho, h3⟩)

/-- Aggregates without marks. -/
def denD (v : Value) : Value :=
  match v with
  | .agg cs => .agg (cs.toList.map den).toArray
  | v => den v
theorem VR.denD {v v' : Value} (h : VR μ v v') : VR μ (Abs.denD v) v' := by
  unfold Abs.denD
  split
  · rename_i cs
    obtain ⟨ys, rfl, hys⟩ := h.inv_agg
    refine .agg ?_
    simp only
    refine ⟨by simp [hys.1], fun i a ha => ?_⟩
    rw [List.getElem?_map] at ha
    cases e : cs.toList[i]? with
    | none => rw [e] at ha; cases ha
    | some u =>
      rw [e] at ha; simp at ha; subst ha
      obtain ⟨b, hb, r⟩ := hys.2 i u e
      exact ⟨b, hb, VR1.den_iff.2 r⟩
  · exact h.den
theorem OpR.denD {ρ ρ' : Operand → Value} {xs : List Operand} (h : OpR μ ρ ρ' xs) : OpR μ (fun x => Abs.denD (ρ x)) ρ' xs := fun x hx => (h x hx).denD

theorem semR_of {ρ : Operand → Value} {o : Oper} {h : Hp} {v raw : Value} (hk : kindOf P o.op = .R) (hs : stepR P (fun x => den (ρ x)) o h.view = some raw) (hm : ∀ {μ : Mu} {v'}, VR μ raw v' → VR μ v v') : SemR P ρ o h v := by
  intro μ base w ρ' hr hrel
  obtain ⟨v', h1, h2⟩ := simR hk hs hr.den hrel.ofView
  exact ⟨v', h1, hm h2⟩

noncomputable section
variable (S : Sy)

/-- Cells that are all of a kind, as a row; like: of that row's kind. -/
def intsOf (k : IntKind) : List Value → Option (List Int)
  | [] => some []
  | v :: l => match den v with
    | .int k' n => if k = k' then (intsOf k l).map (n :: ·) else none
    | _ => none
def strsOf : List Value → Option (List ByteArray)
  | [] => some []
  | v :: l => match den v with
    | .string s => (strsOf l).map (s :: ·)
    | _ => none
def boolsOf : List Value → Option (List Bool)
  | [] => some []
  | v :: l => match v with
    | .bool s => (boolsOf l).map (s :: ·)
    | _ => none
def pairsOf : List Value → Option (List (ByteArray × ByteArray))
  | [] => some []
  | a :: b :: l => match den a, den b with
    | .string s, .string t => (pairsOf l).map ((s, t) :: ·)
    | _, _ => none
  | _ => none
def rowLike (r : Row) (l : List Value) : Option Row :=
  match r with
  | .ints k _ => (intsOf k l).map (.ints k)
  | .bools _ => (boolsOf l).map .bools
  | .strs _ => (strsOf l).map .strs
  | .pairs _ => (pairsOf l).map .pairs
  | .vals _ _ => none
def rowOf (sz : Nat) (l : List Value) : Option Row :=
  match l with
  | [] => none
  | v :: _ => match den v with
    | .int k _ => rowLike (.ints k []) l
    | .bool _ => rowLike (.bools []) l
    | .string _ => if sz = 2 then rowLike (.pairs []) l else rowLike (.strs []) l
    | _ => none

def Blk.asRow (sz : Nat) : Blk → Option Row
  | .row r _ => some r
  | .cells cs _ => rowOf sz cs
  | _ => none

/-- A row of bytes; one of none. -/
def Blk.bytesRow (x : Blk) : Option (List Int) :=
  match x with
  | .cells [] _ => some []
  | x => match x.asRow 1 with
    | some (.ints .u8 xs) => some xs
    | _ => none
def lastBool (h : Hp) (ob : Prop) (b : Bool) : Option (List Alt) := some [⟨some (b = true), some ob, .bool true, h⟩, ⟨some (b = false), some ob, .bool false, h⟩]

/-- A read from a row, at a place that is not known. -/
def symLoad (P : Program) (t : TypeId) (a : Value) (h : Hp) : Option (List Alt) :=
  match den a with
  | .pointer (some ⟨b, o, none⟩) => match P.underlying t, szA P t, h.get b with
    | some d, some n, some x => match x.asRow n with
      | some r =>
        if isAggD d then match r with
          | .pairs xs => if n = 2 then one h (S.neq (S.nmod o 2) 0 ∧ S.nlt (S.ndiv o 2) (S.len xs))
              (.agg #[mk (.string (S.fst (S.get noPair xs (S.ndiv o 2)))), mk (.string (S.snd (S.get noPair xs (S.ndiv o 2))))]) else none
          | .ints k xs => if n ≤ 256 then one h (S.nle (S.nadd o n) (S.len xs)) (.agg ((List.range n).map fun i => mk (.int k (S.get 0 xs (S.nadd o i)))).toArray) else none
          | _ => none
        else match r with
          | .ints k xs => one h (S.nlt o (S.len xs)) (mk (.int k (S.get 0 xs o)))
          | .bools xs => lastBool h (S.nlt o (S.len xs)) (S.get false xs o)
          | .strs xs => one h (S.nlt o (S.len xs)) (mk (.string (S.get (⟨#[]⟩ : ByteArray) xs o)))
          | .pairs xs => one h (S.nlt o (S.nmul (S.len xs) 2)) (mk (.string (S.half xs o)))
          | .vals _ _ => none
      | none => none
    | _, _, _ => none
  | _ => none

/-- A part of a row: what it asks, the part. -/
def Row.sub (r : Row) (o n : Nat) : Prop × Row :=
  match r with
  | .ints k xs => (S.nle (S.nadd o n) (S.len xs), .ints k (S.take n (S.drop o xs)))
  | .bools xs => (S.nle (S.nadd o n) (S.len xs), .bools (S.take n (S.drop o xs)))
  | .strs xs => (S.nle (S.nadd o n) (S.len xs), .strs (S.take n (S.drop o xs)))
  | .pairs xs => (S.neq (S.nmod o 2) 0 ∧ S.nle (S.nadd (S.ndiv o 2) n) (S.len xs), .pairs (S.take n (S.drop (S.ndiv o 2) xs)))
  | .vals z xs => (S.nlt 0 0, .vals z xs)
def Row.esz : Row → Nat
  | .pairs _ => 2
  | _ => 1

def symR (P : Program) (ρ : Operand → Value) (o : Oper) (h : Hp) : Option (List Alt) :=
  match o.op with
  | .load t a => symLoad S P t (ρ a) h
  | .convert src dst x => match P.underlying src, P.underlying dst with
    | some (.slice e), some .string => match P.underlying e, den (ρ x) with
      | some (.int .u8), .slice (some ⟨b, o, none⟩) n _ => match h.get b with
        | some x => match x.bytesRow with
          | some xs => one h (S.nle (S.nadd o n) (S.len xs)) (mk (.string (S.sof (S.take n (S.drop o xs)))))
          | _ => none
        | none => none
      | _, _ => none
    | _, _ => none
  | _ => none
end

theorem intsOf_spec {k : IntKind} : ∀ {l : List Value} {xs : List Int}, intsOf k l = some xs → l.map den = xs.map (.int k)
  | [], xs, h => by simp only [intsOf, Option.some.injEq] at h; subst h; rfl
  | v :: l, xs, h => by
    unfold intsOf at h
    split at h
    · rename_i k' n hv
      split at h
      · rename_i hk
        subst hk
        cases e : intsOf k l with
        | none => simp [e] at h
        | some ys => simp [e] at h; subst h; rw [List.map_cons, intsOf_spec e, hv]; rfl
      · cases h
    · cases h
theorem strsOf_spec : ∀ {l : List Value} {xs : List ByteArray}, strsOf l = some xs → l.map den = xs.map .string
  | [], xs, h => by simp only [strsOf, Option.some.injEq] at h; subst h; rfl
  | v :: l, xs, h => by
    unfold strsOf at h
    split at h
    · rename_i s hv
      cases e : strsOf l with
      | none => simp [e] at h
      | some ys => simp [e] at h; subst h; rw [List.map_cons, strsOf_spec e, hv]; rfl
    · cases h
theorem boolsOf_spec : ∀ {l : List Value} {xs : List Bool}, boolsOf l = some xs → l.map den = xs.map .bool
  | [], xs, h => by simp only [boolsOf, Option.some.injEq] at h; subst h; rfl
  | v :: l, xs, h => by
    unfold boolsOf at h
    split at h
    · cases e : boolsOf l with
      | none => simp [e] at h
      | some ys => simp [e] at h; subst h; rw [List.map_cons, boolsOf_spec e]; rfl
    · cases h
theorem pairsOf_spec : ∀ {l : List Value} {xs : List (ByteArray × ByteArray)}, pairsOf l = some xs → l.map den = (Row.pairs xs).cells
  | [], xs, h => by simp only [pairsOf, Option.some.injEq] at h; subst h; rfl
  | [v], xs, h => by simp [pairsOf] at h
  | a :: b :: l, xs, h => by
    unfold pairsOf at h
    split at h
    · rename_i s t ha hb
      cases e : pairsOf l with
      | none => simp [e] at h
      | some ys =>
        simp [e] at h; subst h
        rw [List.map_cons, List.map_cons, pairsOf_spec e, ha, hb]; rfl
    · cases h
theorem rowLike_spec {r r' : Row} {l : List Value} (h : rowLike r l = some r') : l.map den = r'.cells := by
  unfold rowLike at h
  split at h
  · rename_i k xs
    cases e : intsOf k l with
    | none => simp [e] at h
    | some ys => simp [e] at h; subst h; exact intsOf_spec e
  · cases e : boolsOf l with
    | none => simp [e] at h
    | some ys => simp [e] at h; subst h; exact boolsOf_spec e
  · cases e : strsOf l with
    | none => simp [e] at h
    | some ys => simp [e] at h; subst h; exact strsOf_spec e
  · cases e : pairsOf l with
    | none => simp [e] at h
    | some ys => simp [e] at h; subst h; exact pairsOf_spec e
  · cases h
theorem rowOf_spec {sz : Nat} {r : Row} {l : List Value} (h : rowOf sz l = some r) : l.map den = r.cells := by
  unfold rowOf at h
  split at h
  · cases h
  · split at h
    · exact rowLike_spec h
    · exact rowLike_spec h
    · split at h <;> exact rowLike_spec h
    · cases h
theorem asRow_spec {sz : Nat} {x : Blk} {r : Row} (h : x.asRow sz = some r) : ∃ ro, x.view = .cells r.cells ro := by
  unfold Blk.asRow at h
  split at h
  · simp only [Option.some.injEq] at h; subst h
    exact ⟨_, by rw [view_row, row_den]⟩
  · exact ⟨_, by rw [view_cells, rowOf_spec h]⟩
  · cases h
theorem asRow_row {sz : Nat} {x : Blk} {r : Row} {h : Hp} {b : Nat} (hb : h.get b = some x) (hx : x.asRow sz = some r) : h.view.row b = some r.cells := by
  obtain ⟨ro, e⟩ := asRow_spec hx
  unfold Hp.row
  rw [h.get_view, hb]
  simp only [Option.map_some, e]

theorem pairs_len (xs : List (ByteArray × ByteArray)) : (Row.pairs xs).cells.length = xs.length * 2 := by
  induction xs with
  | nil => rfl
  | cons x xs ih => rw [pairs_cons, List.length_cons, List.length_cons, ih, List.length_cons]; omega
theorem pairs_drop (xs : List (ByteArray × ByteArray)) : ∀ (j : Nat), (Row.pairs xs).cells.drop (j * 2) = (Row.pairs (xs.drop j)).cells := by
  induction xs with
  | nil => intro j; rw [pairs_nil, List.drop_nil, List.drop_nil]; rfl
  | cons x xs ih =>
    intro j
    cases j with
    | zero => rfl
    | succ j =>
      rw [pairs_cons, show (j + 1) * 2 = j * 2 + 2 from by omega, List.drop_succ_cons, List.drop_succ_cons, List.drop_succ_cons]
      exact ih j
theorem pairs_take (xs : List (ByteArray × ByteArray)) : ∀ (j : Nat), (Row.pairs xs).cells.take (j * 2) = (Row.pairs (xs.take j)).cells := by
  induction xs with
  | nil => intro j; rw [pairs_nil, List.take_nil, List.take_nil]; rfl
  | cons x xs ih =>
    intro j
    cases j with
    | zero => rfl
    | succ j =>
      rw [pairs_cons, show (j + 1) * 2 = j * 2 + 2 from by omega, List.take_succ_cons, List.take_succ_cons, List.take_succ_cons, pairs_cons]
      rw [ih j]
theorem pairs_app (xs ys : List (ByteArray × ByteArray)) : (Row.pairs (xs ++ ys)).cells = (Row.pairs xs).cells ++ (Row.pairs ys).cells := by
  induction xs with
  | nil => rfl
  | cons x xs ih => rw [List.cons_append, pairs_cons, pairs_cons, ih]; rfl

theorem pairs_get {xs : List (ByteArray × ByteArray)} {i : Nat} (h : i < xs.length * 2) : (Row.pairs xs).cells[i]? = some (.string (std.half xs i)) := by
  show _ = some (Value.string (if i % 2 = 0 then (xs.getD (i / 2) noPair).1 else (xs.getD (i / 2) noPair).2))
  induction xs generalizing i with
  | nil => simp at h
  | cons x xs ih =>
    rw [pairs_cons]
    rcases i with _ | _ | i
    · rfl
    · rfl
    · rw [List.getElem?_cons_succ, List.getElem?_cons_succ, ih (i := i) (by simp at h; omega), show (i + 2) % 2 = i % 2 from by omega, show (i + 2) / 2 = i / 2 + 1 from by omega, List.getD_cons_succ]
theorem pairs_get2 {xs : List (ByteArray × ByteArray)} {j : Nat} (h : j < xs.length) : ((Row.pairs xs).cells.drop (j * 2)).take 2 = [.string (xs.getD j noPair).1, .string (xs.getD j noPair).2] := by
  rw [pairs_drop, show 2 = 1 * 2 from rfl, pairs_take]
  rw [List.drop_eq_getElem_cons h, List.getD_eq_getElem?_getD, List.getElem?_eq_getElem h]
  rfl

/-- A part of a row is a part of its cells. -/
theorem sub_spec {r : Row} {o n : Nat} (h : (r.sub std o n).1) : (r.cells.drop o).take (n * r.esz) = (r.sub std o n).2.cells ∧ o + n * r.esz ≤ r.cells.length ∧ (r.sub std o n).2.cells.length = n * r.esz := by
  cases r with
  | vals z xs => exact absurd (show 0 < 0 from h) (Nat.lt_irrefl 0)
  | ints k xs =>
    have h : o + n ≤ xs.length := h
    show ((xs.map _).drop o).take (n * 1) = ((xs.drop o).take n).map _ ∧ o + n * 1 ≤ (xs.map (Value.int k)).length ∧ (((xs.drop o).take n).map (Value.int k)).length = n * 1
    rw [← List.map_drop, ← List.map_take, List.length_map, List.length_map, List.length_take, List.length_drop, Nat.mul_one]
    exact ⟨rfl, h, by omega⟩
  | bools xs =>
    have h : o + n ≤ xs.length := h
    show ((xs.map _).drop o).take (n * 1) = ((xs.drop o).take n).map _ ∧ o + n * 1 ≤ (xs.map Value.bool).length ∧ (((xs.drop o).take n).map Value.bool).length = n * 1
    rw [← List.map_drop, ← List.map_take, List.length_map, List.length_map, List.length_take, List.length_drop, Nat.mul_one]
    exact ⟨rfl, h, by omega⟩
  | strs xs =>
    have h : o + n ≤ xs.length := h
    show ((xs.map _).drop o).take (n * 1) = ((xs.drop o).take n).map _ ∧ o + n * 1 ≤ (xs.map Value.string).length ∧ (((xs.drop o).take n).map Value.string).length = n * 1
    rw [← List.map_drop, ← List.map_take, List.length_map, List.length_map, List.length_take, List.length_drop, Nat.mul_one]
    exact ⟨rfl, h, by omega⟩
  | pairs xs =>
    obtain ⟨h0, h⟩ := h
    have h0 : o % 2 = 0 := h0
    have h : o / 2 + n ≤ xs.length := h
    show ((Row.pairs xs).cells.drop o).take (n * 2) = (Row.pairs ((xs.drop (o / 2)).take n)).cells ∧ o + n * 2 ≤ (Row.pairs xs).cells.length ∧ (Row.pairs ((xs.drop (o / 2)).take n)).cells.length = n * 2
    rw [← pairs_take, ← pairs_drop, show o / 2 * 2 = o from by omega, pairs_len, List.length_take, List.length_drop, pairs_len]
    exact ⟨rfl, by omega, by omega⟩

theorem alts_lastBool {h : Hp} {ob : Prop} {b : Bool} {alts : List Alt} {G : Alt → Prop} (e : lastBool h ob b = some alts) (ht : b = true → ob → G ⟨some (b = true), some ob, .bool true, h⟩) (hf : b = false → ob → G ⟨some (b = false), some ob, .bool false, h⟩) : AltsOk alts G := by
  unfold lastBool at e
  simp only [Option.some.injEq] at e; subst e
  refine ⟨?_, fun a ha hc ho => ?_⟩
  · cases hb : b
    · exact ⟨_, List.mem_cons_of_mem _ (List.mem_singleton.2 rfl), rfl⟩
    · exact ⟨_, List.mem_cons_self, rfl⟩
  · rcases List.mem_cons.1 ha with rfl | ha
    · exact ht hc ho
    · rw [List.mem_singleton.1 ha] at hc ho ⊢; exact hf hc ho

theorem symLoad_ok {ρ : Operand → Value} {o : Oper} {t : TypeId} {a : Operand} {h : Hp} {alts : List Alt} (ho : o.op = .load t a) (e : symLoad std P t (ρ a) h = some alts) :
    AltsOk alts fun x => x.h = h ∧ SemR P ρ o h x.v := by
  have mkR : ∀ {v raw : Value}, loadA P t (den (ρ a)) h.view = some raw → (∀ {μ : Mu} {v'}, VR μ raw v' → VR μ v v') → SemR P ρ o h v := by
    intro v raw h1 h3
    refine semR_of (raw := raw) (by rw [ho]; rfl) ?_ h3
    unfold stepR
    rw [ho]
    exact h1
  have scal : ∀ {d : TypeDesc} {n b o' : Nat} {x : Blk} {r : Row} {raw : Value}, den (ρ a) = .pointer (some ⟨b, o', none⟩) → P.underlying t = some d → szA P t = some n → h.get b = some x → x.asRow n = some r → isAggD d = false →
      r.cells[o']? = some raw → loadA P t (den (ρ a)) h.view = some raw := by
    intro d n b o' x r raw ha hd hn hx hr hag hc
    unfold loadA
    rw [ha]
    simp only [hd, hn, asRow_row hx hr, hag, Bool.false_eq_true, if_false]
    exact hc
  unfold symLoad at e
  split at e
  · rename_i b o' ha
    split at e
    · rename_i d n x hd hn hx
      split at e
      · rename_i r hr
        split at e
        · rename_i hag
          split at e
          · rename_i xs
            split at e
            · rename_i hn2
              subst hn2
              refine alts_one e fun hob => ⟨rfl, mkR (raw := .agg #[.string (xs.getD (o' / 2) noPair).1, .string (xs.getD (o' / 2) noPair).2]) ?_ fun {μ v'} h1 => ?_⟩
              · obtain ⟨h0, h1⟩ := hob
                have h0 : o' % 2 = 0 := h0
                have h1 : o' / 2 < xs.length := h1
                unfold loadA
                rw [ha]
                simp only [hd, hn, asRow_row hx hr, hag, if_true]
                rw [if_pos (by rw [pairs_len]; omega)]
                have := pairs_get2 h1
                rw [show o' / 2 * 2 = o' from by omega] at this
                rw [this]
              · obtain ⟨ys, rfl, hys⟩ := h1.inv_agg
                obtain ⟨y1, l1, e1, r1, hys⟩ := hys.inv_cons
                obtain ⟨y2, l2, e2, r2, hys⟩ := hys.inv_cons
                refine .agg ?_
                rw [e1, e2]
                exact All2.cons (.zero (.mark (r1.zero_of_basic rfl) rfl)) (All2.cons (.zero (.mark (r2.zero_of_basic rfl) rfl)) hys)
            · cases e
          · rename_i k xs
            split at e
            · refine alts_one e fun hob => ⟨rfl, mkR (raw := .agg ((List.range n).map fun i => Value.int k (xs.getD (o' + i) 0)).toArray) ?_ fun {μ v'} h1 => ?_⟩
              · have hob : o' + n ≤ xs.length := hob
                unfold loadA
                rw [ha]
                simp only [hd, hn, asRow_row hx hr, hag, if_true]
                rw [if_pos (by show o' + n ≤ (xs.map _).length; rw [List.length_map]; exact hob)]
                congr 3
                show ((xs.map (Value.int k)).drop o').take n = _
                refine List.ext_getElem? fun i => ?_
                rw [List.getElem?_map]
                by_cases hi : i < n
                · rw [List.getElem?_take_of_lt hi, List.getElem?_drop, List.getElem?_map, List.getElem?_range hi, List.getElem?_eq_getElem (show o' + i < xs.length by omega)]
                  simp only [Option.map_some, List.getD_eq_getElem?_getD]
                  rw [List.getElem?_eq_getElem (show o' + i < xs.length by omega)]; rfl
                · rw [List.getElem?_eq_none (by rw [List.length_take]; omega), List.getElem?_eq_none (by rw [List.length_range]; omega)]; rfl
              · obtain ⟨ys, rfl, hys⟩ := h1.inv_agg
                refine .agg ?_
                simp only at hys ⊢
                refine ⟨by rw [← hys.1, List.length_map, List.length_map], fun i a ha => ?_⟩
                rw [List.getElem?_map] at ha
                cases hri : (List.range n)[i]? with
                | none => rw [hri] at ha; cases ha
                | some j =>
                  rw [hri] at ha
                  simp only [Option.map_some, Option.some.injEq] at ha
                  subst ha
                  obtain ⟨b, hb, r⟩ := hys.2 i (.int k (xs.getD (o' + j) 0)) (by rw [List.getElem?_map, hri]; rfl)
                  exact ⟨b, hb, .zero (.mark (r.zero_of_basic rfl) rfl)⟩
            · cases e
          · cases e
        · rename_i hag
          have hag : isAggD d = false := by simpa using hag
          split at e
          · rename_i k xs
            refine alts_one e fun hob => ⟨rfl, mkR (raw := .int k (xs.getD o' 0)) (scal ha hd hn hx hr hag ?_) fun {μ v'} h1 => (show Marks (mk (.int k (xs.getD o' 0))) (.int k (xs.getD o' 0)) from .inr ⟨rfl, rfl⟩).vr h1⟩
            have hob : o' < xs.length := hob
            show (xs.map _)[o']? = _
            rw [List.getElem?_map, List.getD_eq_getElem?_getD, List.getElem?_eq_getElem hob]; rfl
          · rename_i xs
            have key : ∀ b : Bool, xs.getD o' false = b → o' < xs.length → SemR P ρ o h (.bool b) := by
              intro b hb hob
              refine mkR (raw := .bool b) (scal ha hd hn hx hr hag ?_) fun h1 => h1
              show (xs.map _)[o']? = _
              rw [List.getElem?_map, ← hb, List.getD_eq_getElem?_getD, List.getElem?_eq_getElem hob]; rfl
            exact alts_lastBool e (fun hb hob => ⟨rfl, key true hb hob⟩) (fun hb hob => ⟨rfl, key false hb hob⟩)
          · rename_i xs
            refine alts_one e fun hob => ⟨rfl, mkR (raw := .string (xs.getD o' ⟨#[]⟩)) (scal ha hd hn hx hr hag ?_) fun {μ v'} h1 => (show Marks (mk (.string (xs.getD o' ⟨#[]⟩))) (.string (xs.getD o' ⟨#[]⟩)) from .inr ⟨rfl, rfl⟩).vr h1⟩
            have hob : o' < xs.length := hob
            show (xs.map _)[o']? = _
            rw [List.getElem?_map, List.getD_eq_getElem?_getD, List.getElem?_eq_getElem hob]; rfl
          · rename_i xs
            refine alts_one e fun hob => ⟨rfl, mkR (raw := .string (std.half xs o')) (scal ha hd hn hx hr hag (pairs_get hob)) fun {μ v'} h1 => (show Marks (mk (.string (std.half xs o'))) (.string (std.half xs o')) from .inr ⟨rfl, rfl⟩).vr h1⟩
          · cases e
      · cases e
    · cases e
  · cases e

theorem bytesOf_map (xs : List Int) : bytesOf? (xs.map (.int .u8)) = some (xs.map fun n => UInt8.ofNat n.toNat) := by
  induction xs with
  | nil => rfl
  | cons x xs ih => simp only [List.map_cons, bytesOf?, byteOf?, ih]

theorem bytesRow_row {x : Blk} {xs : List Int} {h : Hp} {b : Nat} (hb : h.get b = some x) (hx : x.bytesRow = some xs) : h.view.row b = some (Row.ints .u8 xs).cells := by
  unfold Blk.bytesRow at hx
  split at hx
  · simp only [Option.some.injEq] at hx; subst hx
    unfold Hp.row
    rw [h.get_view, hb]; rfl
  · split at hx
    · rename_i hr
      simp only [Option.some.injEq] at hx; subst hx
      exact asRow_row hb hr
    · cases hx
theorem symR_ok {ρ : Operand → Value} {o : Oper} {h : Hp} {alts : List Alt} (e : symR std P ρ o h = some alts) : kindOf P o.op = .R ∧ AltsOk alts fun a => a.h = h ∧ SemR P ρ o h a.v := by
  unfold symR at e
  split at e
  · rename_i ho
    exact ⟨by rw [ho]; rfl, symLoad_ok ho e⟩
  · rename_i src dst x ho
    split at e
    · rename_i el hs hd
      have hk : kindOf P o.op = .R := by rw [ho]; simp only [kindOf, hs, hd]
      refine ⟨hk, ?_⟩
      split at e
      · rename_i b o' n k he hx
        split at e
        · rename_i blk hb
          split at e
          · rename_i xs hr
            refine alts_one e fun hob => ⟨rfl, semR_of (raw := .string (std.sof (std.take n (std.drop o' xs)))) hk ?_ fun h1 => (show Marks (mk _) _ from .inr ⟨rfl, rfl⟩).vr h1⟩
            unfold stepR
            rw [ho]
            simp only [bytesA, hs, he, hx]
            obtain ⟨h1, h2, h3⟩ := sub_spec (r := .ints .u8 xs) (o := o') (n := n) hob
            have hc : h.view.cells b o' n = some ((xs.drop o').take n |>.map (.int .u8)) := by
              unfold Hp.cells
              rw [bytesRow_row hb hr]
              have h1 : ((Row.ints IntKind.u8 xs).cells.drop o').take (n * 1) = ((xs.drop o').take n).map (.int .u8) := h1
              have h2 : o' + n * 1 ≤ (Row.ints IntKind.u8 xs).cells.length := h2
              rw [Nat.mul_one] at h1 h2
              simp only [h2, if_true, h1]
            rw [hc]
            simp only [bytesOf_map, Option.map_some]
            rfl
          · cases e
        · cases e
      · cases e
    · cases e
  · cases e
end
end Go.Abs
end
