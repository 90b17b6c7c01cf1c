/-
  slices.Sorted(maps.Keys(m)), m a map by texts: what it answers, by the library's own contracts.
-/
import Derived.Shelf.SlIter.Nil
import Derived.Shelf.SortM.Plain
import Derived.Shelf.SortM.SortNone
import Derived.Ground.GgzProg
import Derived.Ground.SlgmProg
import Derived.Test.YtddejgkfgnokgaaAbs24
import Derived.Test.YtddejgkfgnokgaaAbs38
namespace Go.Proofs.Ytddejgkfgnokgaa
open Go.RowKit Go.Maps Go.Sort Go.Shelf Go.Abs
shelf_lay_g SlLaysZ.n7 Ggz 7 at Try 28 as Try.keysA
shelf_lay_g SlLaysZ.n6 Ggz 6 at Try 27 as Try.sortedA
shelf_lay_g SlLaysM.n6 Slgm 6 at Try 31 as Try.sortA
theorem Try.sortsA (m : Nat) : AnyZ.SortsIn Try.prog Try.sortedA_ren Fence.wide m :=
  ⟨fun blk off cap ss W hH hblk hsz => callsIn_wide.2 (AnyM.slices_Sort_string Try.sortA blk off cap ss W hH hblk hsz),
   fun p cap W => callsIn_wide.2 (AnyM.slices_Sort_string_none Try.sortA p cap W)⟩

theorem sorted_str {H : Type} (Bm b nn : Nat) (D0 : DataW H) (R : Value → Option (DataW H × List MemPlace)) (w : World) (hBm : Bm < w.heap.size) (hm : w.cell? ⟨Bm, 0, none⟩ = some (.map (some b))) (hown : w.ownsMap Try.prog 9 R b nn D0) (hmax : Maps.size D0 ≤ maxLen) (hbytes : Maps.size D0 * 16 ≤ 140737488355328) :
    Calls Try.prog 27 #[.func (.func 32) #[] #[.pointer (some ⟨Bm, 0, none⟩)]] w fun e w' => ∃ (v : Value) (ss : List (List UInt8)), e = .returned v ∧ ss.Perm (strKeys D0) ∧
      w'.ownsRow w.heap.size 9 1 v ss.length ((ss.mergeSort (fun x y => decide (x ≤ y))).map encStr) ∧ (v = .slice none 0 0 ↔ ss = []) ∧ Below w.heap.size w w' := by
  refine (callsIn_wide (n := 5)).1 ?_
  have hseq : SeqGives Fence.wide 2 Try.prog 32 #[.pointer (some ⟨Bm, 0, none⟩)] encStr (fun ss => ss.Perm (strKeys D0)) (Maps.size D0) w :=
    AnyZ.keys_gives (ρ := Try.keysA_ren) { Try.keysA with } Fence.wide _ trivial rfl (by omega) Bm b nn D0 _ hBm hm hown
  have cS := AnyZ.sorted_in Try.sortedA Fence.wide 5 trivial trivial trivial trivial rfl (by omega) (Try.sortsA _) (enters_of Try.func31 (by kernel_rfl) rfl) 32 #[.pointer (some ⟨Bm, 0, none⟩)] trivial (enters_of Try.func32 (by kernel_rfl) rfl) _ _ hmax hbytes _ hseq
  change CallsIn _ _ Try.prog 27 _ _ _ at cS
  exact cS

def keysT : List MapEntry → Option (List ByteArray)
  | [] => some []
  | e :: l => match e.key, keysT l with
    | .string n, some ns => if n.data.toList.length ≤ 100000 then some (n :: ns) else none
    | _, _ => none
theorem keysT_spec : ∀ {es : List MapEntry} {ns : List ByteArray}, keysT es = some ns → es.map (·.key) = ns.map Value.string ∧ ∀ n ∈ ns, n.size ≤ 100000
  | [], ns, h => by simp only [keysT, Option.some.injEq] at h; subst h; exact ⟨rfl, fun _ h => (by cases h)⟩
  | e :: l, ns, h => by
    unfold keysT at h
    split at h
    · rename_i n ms hk hm
      split at h
      · rename_i hr
        simp only [Option.some.injEq] at h; subst h
        obtain ⟨h1, h2⟩ := keysT_spec hm
        refine ⟨by rw [List.map_cons, List.map_cons, hk, h1], fun x hx => ?_⟩
        rcases List.mem_cons.1 hx with rfl | hx
        · show x.data.size ≤ _; rw [← Array.length_toList]; exact hr
        · exact h2 x hx
      · cases h
    · cases h
def nodupT : List (List UInt8) → Bool
  | [] => true
  | x :: l => !l.contains x && nodupT l
theorem nodupT_spec : ∀ {l : List (List UInt8)}, nodupT l = true → l.Nodup
  | [], _ => List.nodup_nil
  | x :: l, h => by
    unfold nodupT at h
    simp only [Bool.and_eq_true, Bool.not_eq_true', List.contains_eq_mem, decide_eq_false_iff_not] at h
    exact List.nodup_cons.2 ⟨h.1, nodupT_spec h.2⟩

/-- slices.Sorted(maps.Keys(m)), m a map by texts that are told. -/
noncomputable def sortedTC (args : List Value) (h : Hp) (K : Value → Hp → Prop) : Prop :=
  match args with
  | [.func (.func k) first captured] => match first.toList, captured.toList with
    | [], [.pointer (some ⟨bx, 0, none⟩)] => match h.get bx with
      | some (.cells [.map (some r)] false) => match h.get r with
        | some (.map es clock) => match keysT es with
          | some ns =>
            if k = 32 ∧ es.length ≤ 1000 ∧ (es.all fun e => decide (e.born < clock)) = true ∧ nodupB (es.map (·.born)) = true ∧ nodupT (ns.map (·.data.toList)) = true then
              match sortS (fun x y => decide (x ≤ y)) (ns.map (·.data.toList)) with
              | [] => K (.slice none 0 0) h
              | x :: xs => K (.slice (some ⟨h.next, 0, none⟩) (x :: xs).length (unk 1)) (h.push (.cells ((x :: xs).map fun b => .string ⟨b.toArray⟩) false))
            else False
          | none => False
        | _ => False
      | _ => False
    | _, _ => False
  | _ => False

theorem cout_out {μ μ' : Mu} {base : Nat} {h h' : Hp} {w w' : World} {v v' : Value} (hfree : ∀ b, h.next ≤ b → μ b = none) (ho : Out μ base h w v h' v' w' μ') : COut μ base h w v h' v' w' μ' := by
  refine ⟨ho.val, ho.sim.rel, fun b hb => ?_, ho.sim.fr, ho.sim.own', fun i hi => ?_, ho.next⟩
  · by_cases e : μ' b = μ b
    · rw [e]; exact hfree b (Nat.le_trans ho.next hb)
    · have := ho.dom b e; omega
  · by_cases e : μ' i = μ i
    · exact e
    · have := ho.dom i e; omega

theorem sortedTC_ok : ∀ args h K, sortedTC args h K → CallSem Try.prog 27 args h K := by
  intro args h K e μ base w args' hl hrel hfree
  unfold sortedTC at e
  split at e
  case h_2 => exact e.elim
  rename_i k first captured
  split at e
  case h_2 => exact e.elim
  rename_i bx hf hc
  split at e
  case h_2 => exact e.elim
  rename_i r hbx
  split at e
  case h_2 => exact e.elim
  rename_i es clock hr
  split at e
  case h_2 => exact e.elim
  rename_i ns hns
  split at e
  case isFalse => exact e.elim
  rename_i hcond
  obtain ⟨rfl, hlen, hborn, hbnd, hnd⟩ := hcond
  -- the arguments
  obtain ⟨v1, l1, e1, r1, hl⟩ := hl.inv_cons
  have e4 := hl.inv_nil
  subst e4
  obtain ⟨first', cap', rfl, g1, g2⟩ := r1.inv_func rfl
  rw [hf] at g1; rw [hc] at g2
  have g1 := g1.inv_nil
  obtain ⟨pv, l2, e2, r2, g2⟩ := g2.inv_cons
  have g2 := g2.inv_nil
  subst g2
  have r2' : VR μ (.pointer (some ⟨bx, 0, none⟩)) pv := .zero r2
  obtain ⟨p, hp, rfl⟩ := r2'.inv_ptr
  obtain ⟨arr, et, fr, h1, h2, h3, h4⟩ := hrel.blk bx p _ hp hbx
  obtain ⟨_, _, hs⟩ := h4 rfl
  have hs : p.s = 0 := hs rfl
  obtain ⟨mv, h5, h6⟩ := h3 0 _ rfl
  obtain ⟨pr, hpr, rfl⟩ := (VR.one h6).inv_map
  obtain ⟨es', h7, h8, _⟩ := hrel.blk r pr _ hpr hr
  have hcell : w.cell? ⟨p.c, 0, none⟩ = some (.map (some pr.c)) := by
    rw [cell_of_row w p.c 0 arr et fr h1]
    rw [← h5, hs]
  have ha : args' = #[.func (.func 32) #[] #[.pointer (some ⟨p.c, 0, none⟩)]] := by
    apply Array.toList_inj.1
    rw [e1]
    have a1 : first' = #[] := Array.toList_inj.1 g1
    have a2 : cap' = #[.pointer (some ⟨p.c, 0 + p.s, none⟩)] := Array.toList_inj.1 e2
    rw [a1, a2, hs]
  subst ha
  -- the map
  obtain ⟨k1, k2⟩ := keysT_spec hns
  have hkeys : es'.toList.map (·.key) = ns.map Value.string := by
    rw [← k1]
    apply List.ext_getElem?
    intro i
    rw [List.getElem?_map, List.getElem?_map]
    rcases h8.get i with ⟨a, b⟩ | ⟨a, b, c, d, rr⟩
    · rw [a, b]
    · rw [c, d]; simp [rr.key]
  have hborns : es'.toList.map (·.born) = es.map (·.born) := by
    apply List.ext_getElem?
    intro i
    rw [List.getElem?_map, List.getElem?_map]
    rcases h8.get i with ⟨a, b⟩ | ⟨a, b, c, d, rr⟩
    · rw [a, b]
    · rw [c, d]; simp [rr.born]
  have hst : MapKept.Stamped es' clock := by
    refine ⟨fun x hx => ?_, by rw [hborns]; exact nodupB_spec hbnd, ?_⟩
    · have hm : x.born ∈ es'.toList.map (·.born) := List.mem_map.2 ⟨x, hx, rfl⟩
      rw [hborns] at hm
      obtain ⟨y, hy, hxy⟩ := List.mem_map.1 hm
      rw [← hxy]
      simpa using List.all_eq_true.1 hborn y hy
    · rw [hkeys]
      have h9 := nodupT_spec hnd
      have h10 : ns.Nodup := List.Pairwise.imp (fun {a b} hab he => hab (by rw [he])) (List.pairwise_map.1 h9)
      exact (List.Pairwise.map Value.string (fun a b hab => by intro he; exact hab (by injection he)) h10)
  have hsz : es'.size = es.length := by rw [← Array.length_toList, h8.1]
  have hmaxl : (1000 : Nat) ≤ maxLen := by decide
  obtain ⟨D0, ho, hperm, hDs⟩ := ownsMap_str (P := Try.prog) (k := 9) h7 Try.underlying9 hst (by omega) hkeys (fun n hn => Nat.le_trans (k2 n hn) (by decide))
  have hplt : p.c < w.heap.size := (Array.getElem?_eq_some_iff.1 h1).1
  have hcall := sorted_str p.c pr.c es'.size D0 blankR w hplt hcell ho (by omega) (by omega)
  have hname : (callFunc 27 #[.func (.func 32) #[] #[.pointer (some ⟨p.c, 0, none⟩)]]).run Try.prog w = .ok (.enter 27 #[.func (.func 32) #[] #[.pointer (some ⟨p.c, 0, none⟩)]]) w := by
    have hn := Try.progOk.name Try.func27
    obtain ⟨c, hb⟩ : ∃ c, Try.f27.body = some c := ⟨_, rfl⟩
    simp [callFunc, Try.func27, hn, hb]
  refine .inr ⟨hname, hcall.mono ?_⟩
  rintro en w' ⟨v, ss, rfl, hS, hrow, hnil, hbel⟩
  refine ⟨v, rfl, ?_⟩
  have hss : ss.mergeSort (fun x y => decide (x ≤ y)) = sortS (fun x y => decide (x ≤ y)) (ns.map (·.data.toList)) := sortS_str (hS.trans hperm)
  rw [hss] at hrow
  have hssl : ss.length = (sortS (fun x y => decide (x ≤ y)) (ns.map (·.data.toList))).length := by rw [← hss, List.length_mergeSort]
  split at e
  · rename_i hemp
    rw [hemp] at hssl
    have : ss = [] := List.eq_nil_of_length_eq_zero hssl
    rw [hnil.2 this]
    exact ⟨_, h, μ, e, cout_below hrel hfree hbel (.plain1 rfl)⟩
  · rename_i x xs hcons
    rw [hssl, hcons] at hrow
    have hlen2 : ((x :: xs).map encStr).length = (x :: xs).length := List.length_map ..
    rw [← hlen2] at hrow
    obtain ⟨μ', hout⟩ := out_row (xs := (x :: xs).map encStr) hrel hbel (hfree h.next (Nat.le_refl _)) (fun y hy => by
      obtain ⟨n, _, rfl⟩ := List.mem_map.1 hy; rfl) (by simp) hrow
    refine ⟨_, _, μ', e, cout_out hfree ?_⟩
    have henc : ((x :: xs).map encStr) = (x :: xs).map fun b => Value.string ⟨b.toArray⟩ := by
      apply List.map_congr_left; intro n _; rfl
    rw [henc, List.length_map] at hout
    exact hout
end Go.Proofs.Ytddejgkfgnokgaa
