/-
  READING A RECORD out of any text: a contract.
-/
import Derived.Test.YtecdmdglkkeidaaReadRV
namespace Go.Proofs.Ytecdmdglkkeidaa
open Go.RowKit Go.Abs Go

def okR (l : List Int) : Prop := okN l ∧ okN (l.drop (advN l)) ∧ advN l + advN (l.drop (advN l)) = l.length ∧ valN l ≤ 1073741824 ∧ valN (l.drop (advN l)) ≤ 1073741824
def tokR (l : List Int) : Int := valN l
def rewR (l : List Int) : Int := valN (l.drop (advN l))
theorem rd_body : Try.f20.body = some (bodyS Try.prog 20) := by kernel_rfl
theorem rdCons_ok : ConOk Try.prog (rdCons std okN valN advN) := by
  refine conL_ok fun x hx => ?_
  simp only [List.mem_cons, List.not_mem_nil, or_false] at hx
  rcases hx with rfl | rfl
  · exact reC_ok
  · exact numX_ok
theorem sb_len (s : ByteArray) : (std.sbytes s).length = std.slen s := List.length_map ..
theorem sb_bytes (s : ByteArray) : Bytes (std.sbytes s) := by
  intro x hx
  obtain ⟨b, _, rfl⟩ := List.mem_map.1 (show x ∈ s.data.toList.map fun b => (b.toNat : Int) from hx)
  have := b.toNat_lt
  omega
theorem tk0 {l : List Int} {n : Nat} (h : l.length ≤ n) : (l.drop 0).take n = l := by rw [List.drop_zero, List.take_of_length_le h]
theorem tkd {l : List Int} {n : Nat} : (l.drop n).take (l.length - n) = l.drop n := List.take_of_length_le (by rw [List.length_drop]; omega)
theorem rd1_run (s : ByteArray) (hs : std.slen s ≤ 1000000) (h : okR (std.sbytes s)) : lawV std Try.prog (rdCons std okN valN advN) (inCallF 60) 60 (fun _ => none) Try.f20 (bodyS Try.prog 20) [mk (.string s)] (hpOf []) (rdDone1 std okR tokR rewR s) := by
  rw [rd1_vc]
  have hl := sb_len s
  have hb := sb_bytes s
  unfold tokR rewR
  generalize std.sbytes s = l at hl hb h ⊢
  generalize std.slen s = N at hs hl ⊢
  obtain ⟨h1, h2, h3, h4, h5⟩ := h
  obtain ⟨b1, b2, b3, b4, b5⟩ := num_only hb (ok_some h1)
  obtain ⟨c1, c2, c3, c4, c5⟩ := num_only (fun x hx => hb x (List.mem_of_mem_drop hx)) (ok_some h2)
  refine ⟨⟨0, _, _⟩, rfl, ⟨by dsimp only; omega, by dsimp only; omega⟩, fun _ r hr => ?_⟩
  obtain ⟨rn, rx⟩ := r
  dsimp only at hr
  rw [tk0 (by omega)] at hr
  obtain ⟨rfl, rfl⟩ := hr
  refine ⟨⟨0, _, _⟩, rfl, ⟨by dsimp only; omega, by dsimp only; omega⟩, fun _ r hr => ?_, fun hok => absurd (by dsimp only; rw [tk0 (by omega)]; exact h1) hok⟩
  obtain ⟨v, o, j⟩ := r
  dsimp only at hr
  rw [tk0 (by omega), Nat.zero_add] at hr
  obtain ⟨rfl, rfl, rfl⟩ := hr
  have e : (rx.drop (advN rx)).take (rn - advN rx) = rx.drop (advN rx) := by rw [← hl]; exact tkd
  refine ⟨⟨_, _, _⟩, rfl, ⟨by dsimp only; omega, by dsimp only; omega⟩, fun _ r hr => ?_, fun hok => absurd (by dsimp only; rw [e]; exact h2) hok⟩
  obtain ⟨w, o, j⟩ := r
  dsimp only at hr
  rw [e] at hr
  obtain ⟨rfl, rfl, rfl⟩ := hr
  dsimp only
  exact ⟨fun _ => ⟨fun _ => ⟨fun _ => ⟨fun _ => ⟨fun _ => ⟨(_, _), rfl, rfl, rfl⟩, fun q => absurd (of_decide_eq_false q) (by omega)⟩, fun q => absurd (of_decide_eq_false q) (by omega)⟩, fun q => absurd (of_decide_eq_false q) (by omega)⟩, fun q => absurd (of_decide_eq_false q) (by omega)⟩, fun q => absurd (ne_of_beq_false q) (by omega)⟩
theorem rd0_run (s : ByteArray) (hs : std.slen s ≤ 1000000) (h : ¬ okR (std.sbytes s)) : lawV std Try.prog (rdCons std okN valN advN) (inCallF 60) 60 (fun _ => none) Try.f20 (bodyS Try.prog 20) [mk (.string s)] (hpOf []) (rdDone0 std okR s) := by
  rw [rd0_vc]
  have hl := sb_len s
  generalize std.sbytes s = l at hl h ⊢
  generalize std.slen s = N at hs hl ⊢
  refine ⟨⟨0, _, _⟩, rfl, ⟨by dsimp only; omega, by dsimp only; omega⟩, fun _ r hr => ?_⟩
  obtain ⟨rn, rx⟩ := r
  dsimp only at hr
  rw [tk0 (by omega)] at hr
  obtain ⟨rfl, rfl⟩ := hr
  refine ⟨⟨0, _, _⟩, rfl, ⟨by dsimp only; omega, by dsimp only; omega⟩, fun h1 r hr => ?_, fun _ _ _ => ?_⟩
  · obtain ⟨v, o, j⟩ := r
    dsimp only at hr h1
    rw [tk0 (by omega)] at h1
    have h1' := h1
    unfold okN at h1'
    rw [tk0 (by omega), Nat.zero_add] at hr
    obtain ⟨rfl, rfl, rfl⟩ := hr
    have e : (rx.drop (advN rx)).take (rn - advN rx) = rx.drop (advN rx) := by rw [← hl]; exact tkd
    have hadv : advN rx ≤ rx.length := numL_adv (ok_some h1)
    refine ⟨⟨_, _, _⟩, rfl, ⟨by dsimp only; omega, by dsimp only; omega⟩, fun h2 r hr => ?_, fun _ _ _ => ?_⟩
    · obtain ⟨w, o, j⟩ := r
      dsimp only at hr h2
      rw [e] at hr h2
      obtain ⟨rfl, rfl, rfl⟩ := hr
      have hadv2 := numL_adv (ok_some h2)
      rw [List.length_drop] at hadv2
      dsimp only
      repeat' first
        | (refine ⟨⟨⟩, rfl, trivial⟩)
        | (refine And.intro ?_ ?_)
        | (intro q; simp only [decide_eq_true_eq, decide_eq_false_iff_not, beq_iff_eq, beq_eq_false_iff_ne, ne_eq] at q)
      exfalso
      exact h ⟨h1, h2, by omega, by omega, by omega⟩
    · repeat' first
        | (refine ⟨⟨⟩, rfl, trivial⟩)
        | (refine And.intro ?_ ?_)
        | (intro q)
  · repeat' first
      | (refine ⟨⟨⟩, rfl, trivial⟩)
      | (refine And.intro ?_ ?_)
      | (intro q)
theorem rdC_ok : ∀ args h K, fcon (txI std) [rdO1 std okR tokR rewR, rdO0 std okR] args h K → CallSem Try.prog 20 args h K :=
  fcon_ok (fun s _ => by
    by_cases e : okR (std.sbytes s)
    · exact ⟨_, List.mem_cons_self, e⟩
    · exact ⟨_, List.mem_cons_of_mem _ (List.mem_cons_self), e⟩) fun O hO => by
    rcases List.mem_cons.1 hO with rfl | hO
    · exact FSpec.okF Try.progOk rdCons_ok (inCallF_ok 60) _ Try.func20 rd_body (Nat.le_of_ble_eq_true rfl) rfl fun d hd => ⟨_, rfl, rfl, rd1_run d hd.1 hd.2⟩
    · rw [List.mem_singleton.1 hO]
      exact FSpec.okF Try.progOk rdCons_ok (inCallF_ok 60) _ Try.func20 rd_body (Nat.le_of_ble_eq_true rfl) rfl fun d hd => ⟨_, rfl, rfl, rd0_run d hd.1 hd.2⟩
end Go.Proofs.Ytecdmdglkkeidaa
