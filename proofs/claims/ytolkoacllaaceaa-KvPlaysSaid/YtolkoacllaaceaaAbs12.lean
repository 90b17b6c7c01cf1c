/-
  THE ABSTRACT EVALUATOR AND THE MODEL: copy; all operations that write memory; what the model stands in for.
-/
import Derived.Test.YtolkoacllaaceaaAbs11
import Derived.Laws.Externs
import Derived.KernelRfl
namespace Go.Abs
open Go

section
variable {P : Program} {μ : Mu} {base : Nat} {w : World}

theorem sourceA_first {xt : TypeId} {x x' : Value} {h : Hp} {m sz : Nat} {news : List Value} (hs : sourceA P sz xt [] x h = some (m, news)) (hr : Rel μ base h.get w) (hx : VR μ x x')
    (hint : ∀ k, P.underlying xt ≠ some (.int k)) :
    (∀ w0, (Builtin.lenOf x').run P w0 = .ok m w0) ∧ news.length = m * sz ∧ ∀ n, n ≤ m → ∃ l', (Builtin.firstCells sz n x').run P w = .ok l' w ∧ All2 (VR1 μ) (news.take (n * sz)) l'.toList := by
  unfold sourceA at hs
  split at hs
  · rename_i k kk n hu
    exact absurd hu (hint k)
  · simp only [Option.some.injEq, Prod.mk.injEq] at hs
    obtain ⟨rfl, rfl⟩ := hs
    have := hx.eq_of_plain (v := .slice none 0 0) rfl; subst this
    exact ⟨fun _ => rfl, by simp, fun n hn => ⟨#[], run_firstCells_none w _ _ _ _, by simpa using All2.nil⟩⟩
  · rename_i t b o n k hu
    cases hc : h.cells b o (n * sz) with
    | none =>
      simp [hc] at hs
      obtain ⟨rfl, rfl, rfl⟩ := hs
      have key : ∀ (a' : Addr) (k' : Nat), (∀ w0, (Builtin.lenOf (.slice (some a') 0 k')).run P w0 = .ok 0 w0) ∧ ([] : List Value).length = 0 * sz ∧ ∀ n, n ≤ 0 → ∃ l', (Builtin.firstCells sz n (.slice (some a') 0 k')).run P w = .ok l' w ∧ All2 (VR1 μ) (([] : List Value).take (n * sz)) l'.toList := fun a' k' => by
        refine ⟨fun _ => rfl, by simp, fun q hq => ⟨#[], ?_, by simpa using All2.nil⟩⟩
        have hq0 : q = 0 := by omega
        subst hq0
        exact run_firstCells_some w sz 0 a' 0 k' [] (by simp) (by simp)
      rcases hx.inv_slice with ⟨p, k', hp, rfl, hlen, _⟩ | ⟨_, hk, a', _, rfl⟩
      · exact key _ _
      · exact key _ _
    | some cs =>
      simp [hc] at hs
      obtain ⟨rfl, rfl⟩ := hs
      rcases hx.inv_slice with ⟨p, k', hp, rfl, hlen, _⟩ | ⟨rfl, hk, a', _, rfl⟩
      · obtain ⟨cs', h1, h2, h3⟩ := cells_run hc hr hp
        refine ⟨fun _ => rfl, by rw [h1.1, h2], fun q hq => ⟨(cs'.take (q * sz)).toArray, ?_, by simpa using h1.take (q * sz)⟩⟩
        have hle : q * sz ≤ n * sz := Nat.mul_le_mul_right _ hq
        refine run_firstCells_some w sz q _ n k' (cs'.take (q * sz)) (by rw [List.length_take, h2]; omega) (fun j v hj => h3 j v ?_)
        rw [List.getElem?_take] at hj
        split at hj
        · exact hj
        · cases hj
      · have hcs : cs = [] := by
          unfold Hp.cells at hc
          split at hc
          · split at hc
            · simp at hc; exact hc
            · cases hc
          · cases hc
        subst hcs
        refine ⟨fun _ => rfl, by simp, fun q hq => ⟨#[], ?_, by simpa using All2.nil⟩⟩
        have hq0 : q = 0 := by omega
        subst hq0
        exact run_firstCells_some w sz 0 a' 0 0 [] (by simp) (by simp)
  · rename_i s hu
    split at hs
    · rename_i hsz
      subst hsz
      simp only [Option.some.injEq, Prod.mk.injEq] at hs
      obtain ⟨rfl, rfl⟩ := hs
      have := hx.inv_string; subst this
      refine ⟨fun _ => rfl, by simp [valBytes], fun q hq => ⟨(s.extract 0 q).data.map fun b => Value.int .u8 b.toNat, rfl, ?_⟩⟩
      have : ((s.extract 0 q).data.map fun b => Value.int .u8 b.toNat).toList = (valBytes s).take (q * 1) := by
        rw [ByteArray.data_extract, Array.toList_map, Array.toList_extract, List.extract_eq_take_drop]
        simp [valBytes, List.map_take]
      rw [this]
      exact All2.refl fun a ha => by
        have := List.mem_of_mem_take ha
        obtain ⟨b, _, rfl⟩ := List.mem_map.1 this
        exact .refl_plain rfl
    · cases hs
  · cases hs

theorem copyA_run {argTypes : Array TypeId} {ty dt xt : TypeId} {args : Array Value} {d d' x x' v : Value} {h h' : Hp} (hs : copyA P dt xt d x h = some (v, h'))
    (h0 : argTypes[0]? = some dt) (ha0 : args[0]? = some d') (ha1 : args[1]? = some x') (hr : Rel μ base h.get w) (hd : VR μ d d') (hx : VR μ x x') :
    ∃ v' w', (Builtin.copy_ argTypes ty args).run P w = .ok v' w' ∧ Out μ base h w v h' v' w' μ := by
  unfold copyA at hs
  split at hs
  · rename_i e hu
    split at hs
    · rename_i sz hsz
      split at hs
      · cases hs
      · rename_i hni
        have hint : ∀ k, P.underlying xt ≠ some (.int k) := fun k e => hni k e
        split at hs
        · rename_i m news hsrc
          simp only [Option.some.injEq, Prod.mk.injEq] at hs
          obtain ⟨rfl, rfl⟩ := hs
          have := hd.eq_of_plain (v := .slice none 0 0) rfl; subst this
          obtain ⟨hl, hnl, hf⟩ := sourceA_first hsrc hr hx hint
          obtain ⟨l', h1, h2⟩ := hf 0 (Nat.zero_le _)
          refine ⟨goInt 0, w, ?_, Out.same (.plain1 rfl) (Sim.refl hr) rfl (.refl μ _)⟩
          simp [Builtin.copy_, h0, ha0, ha1, run_underlying hu, hl, szA_run hsz, h1]
        · rename_i m news b o len cap hsrc
          split at hs
          · rename_i cs hg
            split at hs
            · rename_i hc
              simp only [Option.some.injEq, Prod.mk.injEq] at hs
              obtain ⟨rfl, rfl⟩ := hs
              obtain ⟨hl, hnl, hf⟩ := sourceA_first hsrc hr hx hint
              obtain ⟨l', h1, h2⟩ := hf (min m len) (Nat.min_le_left _ _)
              rcases hd.inv_slice with ⟨p, k', hp, rfl, hlk, hk⟩ | ⟨rfl, hk, a', ⟨p0, hp0⟩, rfl⟩
              · have hmul : min m len * sz ≤ len * sz := Nat.mul_le_mul_right _ (Nat.min_le_right _ _)
                obtain ⟨w', h3, h4⟩ := sim_splice (P := P) hr hp hg (o := o) (by rw [List.length_take]; omega) h2
                refine ⟨_, w', ?_, Out.same (.plain1 rfl) (by rw [get_put_fun (Hp.lt_of_get hg)]; exact h4) rfl (.put hp (Hp.lt_of_get hg))⟩
                have hmin : Nat.min m len = min m len := rfl
                simp [Builtin.copy_, h0, ha0, ha1, run_underlying hu, hl, szA_run hsz, hmin, h1, h3]
                congr 1; omega
              · have hz : min m 0 = 0 := by omega
                rw [hz] at h1 h2
                simp only [Nat.zero_mul, List.take_zero] at h2
                have hself : (h.put b (some (.cells (spliceL cs o (news.take (min m 0 * sz))) false))).get = h.get := by
                  rw [hz, get_put_fun (Hp.lt_of_get hg)]
                  simp only [Nat.zero_mul, List.take_zero, spliceL]
                  funext c
                  by_cases e : c = b
                  · subst e; rw [if_pos rfl, hg]
                  · rw [if_neg e]
                have hl0 : l'.toList = [] := h2.inv_nil
                have hv0 : goInt (min (m : Int) (0 : Nat)) = goInt 0 := by congr 1; omega
                rw [hv0]
                refine ⟨goInt 0, w, ?_, Out.same (.plain1 rfl) (by rw [hself]; exact Sim.refl hr) rfl (fun c _ _ => .inl (by rw [hself]))⟩
                simp [Builtin.copy_, h0, ha0, ha1, run_underlying hu, hl, szA_run hsz, h1, hl0, storeCells]
            · cases hs
          · cases hs
        · cases hs
    · cases hs
  · cases hs

/-- EACH OPERATION THAT WRITES MEMORY. -/
theorem simE {o : Oper} {ρ ρ' : Operand → Value} {v : Value} {h h' : Hp} (hs : stepE P ρ o h = some (v, h')) (hr : OpR μ ρ ρ' o.op.operands.toList) (hrel : Rel μ base h.get w) (hfr : h.next < h'.next → μ h.next = none) :
    ∃ w' μ', Out μ base h w v h' v w' μ' ∧ (execOp ρ' o).run P w = .ok .skip w' ∧ v = undef ∨
    ∃ v' w' μ', Out μ base h w v h' v' w' μ' ∧ (execOp ρ' o).run P w = .ok (.value v') w' := by
  obtain ⟨dst, op, ty, pos, after, guard⟩ := o
  unfold OpR at hr
  cases op <;> first | (simp [stepE] at hs; done) | skip
  all_goals simp only [stepE] at hs
  all_goals simp only [Op.operands] at hr
  all_goals simp only [execOp]
  case store t a x =>
    cases e : storeA P t (ρ a) (ρ x) h with
    | none => simp [e] at hs
    | some h2 =>
      simp [e] at hs
      obtain ⟨rfl, rfl⟩ := hs
      obtain ⟨w', h1, h2, h3, h4⟩ := storeA_run e hrel (hr a (by simp)) (hr x (by simp))
      exact ⟨w', μ, .inl ⟨Out.same (.undef μ) h2 h3 h4, by simp [h1], rfl⟩⟩
  case mapUpdate t m k x =>
    cases e : mapUpdateA P t (ρ m) (ρ k) (ρ x) h with
    | none => simp [e] at hs
    | some h2 =>
      simp [e] at hs
      obtain ⟨rfl, rfl⟩ := hs
      obtain ⟨w', h1, h2, h3, h4⟩ := mapUpdateA_run e hrel (hr m (by simp)) (hr k (by simp)) (hr x (by simp))
      exact ⟨w', μ, .inl ⟨Out.same (.undef μ) h2 h3 h4, by simp [h1], rfl⟩⟩
  case insert t m k x =>
    cases e : mapUpdateA P t (ρ m) (ρ k) (ρ x) h with
    | none => simp [e] at hs
    | some h2 =>
      simp [e] at hs
      obtain ⟨rfl, rfl⟩ := hs
      obtain ⟨w', h1, h2, h3, h4⟩ := mapUpdateA_run e hrel (hr m (by simp)) (hr k (by simp)) (hr x (by simp))
      exact ⟨w', μ, .inl ⟨Out.same (.undef μ) h2 h3 h4, by simp [h1], rfl⟩⟩
  case mapEntry t m k =>
    obtain ⟨v', w', h1, h2, h3, h4, h5⟩ := mapEntryA_run hs hrel (hr m (by simp)) (hr k (by simp))
    exact ⟨w', μ, .inr ⟨v', w', μ, Out.same h2 h3 h4 h5, by simp [h1]⟩⟩
  case entryStore t m s x =>
    cases e : entryStoreA (ρ m) (ρ s) (ρ x) h with
    | none => simp [e] at hs
    | some h2 =>
      simp [e] at hs
      obtain ⟨rfl, rfl⟩ := hs
      obtain ⟨w', h1, h2, h3, h4⟩ := entryStoreA_run (P := P) (t := t) e hrel (hr m (by simp)) (hr s (by simp)) (hr x (by simp))
      refine ⟨w', μ, .inl ⟨Out.same (.undef μ) h2 h3 h4, ?_, rfl⟩⟩
      simp only [Sem.run_bind, h1, Result.andThen_ok, Sem.run_pure]
  case call c =>
    obtain ⟨cal, args, argTypes⟩ := c
    cases cal with
    | value f => simp at hs
    | invoke r n => simp at hs
    | builtin b =>
      simp only at hs
      have hl : All2 (VR μ) (args.toList.map ρ) (args.map ρ').toList := by
        rw [Array.toList_map]
        exact list_rel fun x hx => hr x (by simpa [Call.operands] using hx)
      refine ⟨w, μ, .inr ?_⟩
      split at hs
      · rename_i st xt s x ht ha
        rw [ha] at hl
        obtain ⟨s', l1, hs1, hsv, hl1⟩ := hl.inv_cons
        obtain ⟨x', l2, rfl, hxv, hl2⟩ := hl1.inv_cons
        have := hl2.inv_nil; subst this
        have h0 : argTypes[0]? = some st := by rw [← Array.getElem?_toList, ht]; rfl
        have h1 : argTypes[1]? = some xt := by rw [← Array.getElem?_toList, ht]; rfl
        have ha0 : (args.map ρ')[0]? = some s' := by rw [← Array.getElem?_toList, hs1]; rfl
        have ha1 : (args.map ρ')[1]? = some x' := by rw [← Array.getElem?_toList, hs1]; rfl
        obtain ⟨v', w', μ', h2, h3⟩ := appendA_run (ty := ty) hs h0 h1 ha0 ha1 hrel hfr hsv hxv
        exact ⟨v', w', μ', h3, by simp only [resolve, invoke, builtin, Sem.run_bind, Sem.run_pure, Result.andThen_ok, h2]⟩
      · rename_i dt xt d x ht ha
        rw [ha] at hl
        obtain ⟨s', l1, hs1, hsv, hl1⟩ := hl.inv_cons
        obtain ⟨x', l2, rfl, hxv, hl2⟩ := hl1.inv_cons
        have := hl2.inv_nil; subst this
        have h0 : argTypes[0]? = some dt := by rw [← Array.getElem?_toList, ht]; rfl
        have ha0 : (args.map ρ')[0]? = some s' := by rw [← Array.getElem?_toList, hs1]; rfl
        have ha1 : (args.map ρ')[1]? = some x' := by rw [← Array.getElem?_toList, hs1]; rfl
        obtain ⟨v', w', h2, h3⟩ := copyA_run (ty := ty) hs h0 ha0 ha1 hrel hsv hxv
        exact ⟨v', w', μ, h3, by simp only [resolve, invoke, builtin, Sem.run_bind, Sem.run_pure, Result.andThen_ok, h2]⟩
      · rename_i t ts m k ht ha
        rw [ha] at hl
        obtain ⟨s', l1, hs1, hsv, hl1⟩ := hl.inv_cons
        obtain ⟨x', l2, rfl, hxv, hl2⟩ := hl1.inv_cons
        have := hl2.inv_nil; subst this
        have h0 : argTypes[0]? = some t := by rw [← Array.getElem?_toList, ht]; rfl
        have ha0 : (args.map ρ')[0]? = some s' := by rw [← Array.getElem?_toList, hs1]; rfl
        have ha1 : (args.map ρ')[1]? = some x' := by rw [← Array.getElem?_toList, hs1]; rfl
        cases e : deleteA P t m k h with
        | none => simp [e] at hs
        | some h2 =>
          simp [e] at hs
          obtain ⟨rfl, rfl⟩ := hs
          obtain ⟨w', h2, h3, h4, h5⟩ := deleteA_run (ty := ty) e h0 ha0 ha1 hrel hsv hxv
          exact ⟨_, w', μ, Out.same (.undef μ) h3 h4 h5, by simp only [resolve, invoke, builtin, Sem.run_bind, Sem.run_pure, Result.andThen_ok, h2]; rfl⟩
      · cases hs

theorem look_clone : Extern.allRows.lookup "maps.clone" = some Extern.MapsClone.clone := by kernel_rfl
theorem look_clone_g : Extern.allGenericRows.lookup "maps.clone" = none := by kernel_rfl
theorem look_clone_t : Extern.allTypedRows.lookup "maps.clone" = none := by kernel_rfl
theorem look_clone_n : Extern.allNextRows.lookup "maps.clone" = none := by kernel_rfl
theorem look_cmp : Extern.allRows.lookup "internal/bytealg.abigen_runtime_cmpstring" = some Extern.BytealgCompare.compare := by kernel_rfl
theorem look_cmp_g : Extern.allGenericRows.lookup "internal/bytealg.abigen_runtime_cmpstring" = none := by kernel_rfl
theorem look_cmp_t : Extern.allTypedRows.lookup "internal/bytealg.abigen_runtime_cmpstring" = none := by kernel_rfl
theorem look_cmp_n : Extern.allNextRows.lookup "internal/bytealg.abigen_runtime_cmpstring" = none := by kernel_rfl
theorem look_none_n : Extern.allNextRows.lookup "" = none := by kernel_rfl

/-- What the model stands in for. -/
theorem externA_run {fn : Func} {args : List Value} {args' : Array Value} {v : Value} {h h' : Hp} (hs : externA fn.name fn.origin args h = some (v, h')) (hl : All2 (VR μ) args args'.toList)
    (hrel : Rel μ base h.get w) (hfr0 : h.next < h'.next → μ h.next = none) {f : FuncId} (hf : P.funcs[f]? = some fn) (hb : fn.body = none) :
    ∃ v' w' μ', (callFunc f args').run P w = .ok (.value v') w' ∧ Out μ base h w v h' v' w' μ' := by
  unfold externA at hs
  split at hs
  · cases hs
  · rename_i ho
    have ho' : fn.origin = "" := by
      by_cases e : fn.origin = ""
      · exact e
      · exact absurd e ho
    split at hs
    · rename_i hn
      have hfn : Extern.findNext fn = none := by simp [Extern.findNext, hn, ho', look_clone_n, look_none_n]
      have hfd : Extern.find fn = some Extern.MapsClone.clone := by simp [Extern.find, hn, look_clone, look_clone_g, look_clone_t]
      have hcf := run_callFunc_extern hf (by rw [hn]; rfl) (by rw [hb]; rfl) hfn hfd args' w
      split at hs
      · rename_i t r
        obtain ⟨y, l1, hy, hyv, hl1⟩ := hl.inv_cons
        have := hl1.inv_nil; subst this
        obtain ⟨y0, rfl, hy0⟩ := hyv.inv_iface
        obtain ⟨p, hp, rfl⟩ := (VR.zero hy0).inv_map
        have hargs : args' = #[.iface t (.map (some p.c))] := Array.ext' (by rw [hy])
        subst hargs
        split at hs
        · rename_i es ck hg
          simp only [Option.some.injEq, Prod.mk.injEq] at hs
          obtain ⟨rfl, rfl⟩ := hs
          obtain ⟨es', hw, hes, hpb⟩ := hrel.blk r p _ hp hg
          have hfr := hfr0 (Nat.lt_succ_self _)
          have hgr := grow_alloc w (.map es' ck)
          refine ⟨.iface t (.map (some w.heap.size)), w.alloc (.map es' ck), Mu.upd μ h.next ⟨w.heap.size, 0, 0⟩, ?_, ?_, ?_, Nat.le_succ _, dom_upd rfl, .push μ h _⟩
          · rw [hcf]
            have hc : Extern.MapsClone.clone #[.iface t (.map (some p.c))] = (do
                let .map entries clock ← getObj p.c | stuck "maps.clone: a map expected"
                pure (.iface t (.map (some (← newObj (.map entries clock)))))) := rfl
            rw [hc]
            simp [getObj_map hw]
          · exact .one (.iface (.map (Mu.upd_same μ h.next ⟨w.heap.size, 0, 0⟩)))
          · rw [get_push_fun]
            exact sim_new hrel hgr hfr rfl ⟨es', hgr.new, hes.mono fun _ _ _ r => ⟨r.key, r.born, r.val.mono (Mu.le_upd hfr)⟩, hrel.size⟩
        · cases hs
      · cases hs
    · split at hs
      · rename_i hn
        have hfn : Extern.findNext fn = none := by simp [Extern.findNext, hn, ho', look_cmp_n, look_none_n]
        have hfd : Extern.find fn = some Extern.BytealgCompare.compare := by simp [Extern.find, hn, look_cmp, look_cmp_g, look_cmp_t]
        have hcf := run_callFunc_extern hf (by rw [hn]; rfl) (by rw [hb]; rfl) hfn hfd args' w
        split at hs
        · rename_i a b
          simp only [Option.some.injEq, Prod.mk.injEq] at hs
          obtain ⟨rfl, rfl⟩ := hs
          obtain ⟨y, l1, hy, hyv, hl1⟩ := hl.inv_cons
          obtain ⟨z, l2, rfl, hzv, hl2⟩ := hl1.inv_cons
          have := hl2.inv_nil; subst this
          have := hyv.inv_string; subst this
          have := hzv.inv_string; subst this
          have hargs : args' = #[.string a, .string b] := Array.ext' (by rw [hy])
          subst hargs
          refine ⟨goInt (Lib.compareBytes a.data.toList b.data.toList), w, μ, ?_, Out.same (.plain1 rfl) (Sim.refl hrel) rfl (.refl μ _)⟩
          rw [hcf]
          have hc : Extern.BytealgCompare.compare #[.string a, .string b] = (do pure (goInt (Extern.BytealgCompare.cmp (← Extern.Bytes.bytesOf (.string a)) (← Extern.Bytes.bytesOf (.string b))))) := rfl
          rw [hc]
          simp [Extern.Bytes.bytesOf, Lib.cmp_eq]
        · cases hs
      · cases hs
end
end Go.Abs
