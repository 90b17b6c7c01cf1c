/-
  ONE NUMBER, ONE TEXT put into bytes: contracts; Within of bounds that aren't known.
-/
import Derived.Test.YtgegjbapgccbaaaPut1V
namespace Go.Proofs.Ytgegjbapgccbaaa
open Go.RowKit Go.Abs Go

theorem put_body : Try.f12.body = some (bodyS Try.prog 12) := by kernel_rfl
theorem txt_body : Try.f14.body = some (bodyS Try.prog 14) := by kernel_rfl
theorem oneCons_ok (l : List Nat) : ConOk Try.prog (oneCons std enc l) := by
  refine tellO_ok (conL_ok fun x hx => ?_) _
  simp only [List.mem_cons, List.not_mem_nil, or_false] at hx
  subst hx
  exact oneC_ok
theorem take_enc (n : Int) : ((enc n).drop 0).take (enc n).length = enc n := by simp
theorem sbytes_len (s : ByteArray) : (std.sbytes s).length = std.slen s := List.length_map ..
theorem put_run (n : Int) (hn : 0 ≤ n ∧ n ≤ 1099511627775) : lawV std Try.prog (oneCons std enc [15]) (inCallF 60) 40 (fun _ => none) Try.f12 (bodyS Try.prog 12) [.slice (some ⟨0, 0, none⟩) 1 1] (hpOf [some (.cells [mk (.int .i64 n)] true)]) (putDone std enc n) := by
  rw [put_vc]
  refine ⟨n, rfl, hn, fun _ u hu => ?_⟩
  subst hu
  exact ⟨enc_ne _, enc_sz _, u, by rw [take_enc], rfl⟩
theorem txt_run (s : ByteArray) (hs : std.slen s ≤ 1000000) : lawV std Try.prog (oneCons std enc [16]) (inCallF 60) 40 (fun _ => none) Try.f14 (bodyS Try.prog 14) [.slice (some ⟨0, 0, none⟩) 1 1] (hpOf [some (.cells [mk (.string s)] true)]) (txtDone std enc s) := by
  rw [txt_vc]
  refine ⟨_, rfl, ⟨Int.natCast_nonneg _, by omega⟩, fun _ u hu => ?_⟩
  subst hu
  have he := enc_len (std.slen s : Int)
  refine ⟨enc_ne _, enc_sz _, fun h => ⟨trivial, ⟨_, _⟩, rfl, ?_, ?_⟩, fun h => ⟨⟨trivial, by rw [take_enc]; omega, ⟨by omega, by omega⟩, ?_⟩, ⟨_, _⟩, rfl, rfl, ?_⟩⟩
  · have h : std.slen s = 0 := eq_of_beq h
    dsimp only; omega
  · have h : std.slen s = 0 := eq_of_beq h
    have : std.sbytes s = [] := List.length_eq_zero_iff.1 (by rw [sbytes_len, h])
    dsimp only
    rw [this, take_enc, List.append_nil]
  · have h : ¬ std.slen s = 0 := ne_of_beq_false h
    omega
  · dsimp only
    rw [take_enc, take_enc]
noncomputable def putG (S : Sy) (enc : Int → List Int) : GOut Int := ⟨putO S enc, fun d => d⟩
noncomputable def txtG (S : Sy) (enc : Int → List Int) : GOut ByteArray := ⟨txtO S enc, fun d => ⟨S.nadd (S.len (enc (S.int (S.slen d)))) (S.slen d), S.app (enc (S.int (S.slen d))) (S.sbytes d)⟩⟩
theorem put_spec : ∀ args h K, ((putO std enc).spec (putI std)).con args h K → CallSem Try.prog 12 args h K :=
  FSpec.okF Try.progOk (oneCons_ok _) (inCallF_ok 60) _ Try.func12 put_body (Nat.le_of_ble_eq_true rfl) rfl fun d hd => ⟨_, rfl, rfl, put_run d hd.1⟩
theorem txt_spec : ∀ args h K, ((txtO std enc).spec (txtI std)).con args h K → CallSem Try.prog 14 args h K :=
  FSpec.okF Try.progOk (oneCons_ok _) (inCallF_ok 60) _ Try.func14 txt_body (Nat.le_of_ble_eq_true rfl) rfl fun d hd => ⟨_, rfl, rfl, txt_run d hd.1⟩
theorem putC_ok : ∀ args h K, fcon (putI std) [putO std enc] args h K → CallSem Try.prog 12 args h K :=
  fcon_ok (fun d _ => ⟨_, List.mem_singleton.2 rfl, trivial⟩) fun O hO => by
    rw [List.mem_singleton.1 hO]; exact put_spec
theorem txtC_ok : ∀ args h K, fcon (txtI std) [txtO std enc] args h K → CallSem Try.prog 14 args h K :=
  fcon_ok (fun d _ => ⟨_, List.mem_singleton.2 rfl, trivial⟩) fun O hO => by
    rw [List.mem_singleton.1 hO]; exact txt_spec
theorem putD_ok : ∀ args h K, gcon (putI std) [putG std enc] args h K → FunSem Try.prog 12 args h K :=
  gcon_ok (fun d _ => ⟨_, List.mem_singleton.2 rfl, trivial⟩) (fun O hO => by
    have := List.mem_singleton.1 hO
    subst this
    rintro d r h
    exact h) fun O hO => by
    rw [List.mem_singleton.1 hO]; exact put_spec
theorem txtD_ok : ∀ args h K, gcon (txtI std) [txtG std enc] args h K → FunSem Try.prog 14 args h K :=
  gcon_ok (fun d _ => ⟨_, List.mem_singleton.2 rfl, trivial⟩) (fun O hO => by
    have := List.mem_singleton.1 hO
    subst this
    rintro d ⟨a, b⟩ ⟨rfl, rfl⟩
    rfl) fun O hO => by
    rw [List.mem_singleton.1 hO]; exact txt_spec
/-- Within, of bounds that aren't known. -/
def withinS (S : Sy) (args : List Value) (h : Hp) (K : Value → Hp → Prop) : Prop :=
  match args with
  | [a, lo, hi] => match den a, den lo, den hi with
    | .int .i64 _, .int .i64 lo, .int .i64 hi => (S.ile (-1000000000000) lo ∧ S.ile lo hi ∧ S.ile hi 2000000000000) ∧ ∀ r : Int, (S.ile lo r ∧ S.ile r hi) → K (mk (.int .i64 r)) h
    | _, _, _ => False
  | _ => False
theorem withinS_ok : ∀ args h K, withinS std args h K → CallSem Try.prog 16 args h K := by
  intro args h K e μ base w args' hl hrel hfree
  unfold withinS at e
  split at e
  case h_2 => exact e.elim
  rename_i a lo hi
  split at e
  case h_2 => exact e.elim
  rename_i n lo hi d1 d2 d3
  obtain ⟨⟨h1, h2, h3⟩, hK⟩ := e
  have h1 : -1000000000000 ≤ lo := h1
  have h2 : lo ≤ hi := h2
  have h3 : hi ≤ 2000000000000 := h3
  obtain ⟨v1, l1, e1, r1, hl⟩ := hl.inv_cons
  obtain ⟨v2, l2, e2, r2, hl⟩ := hl.inv_cons
  obtain ⟨v3, l3, e3, r3, hl⟩ := hl.inv_cons
  have e4 := hl.inv_nil
  have r1 := r1.den
  have r2 := r2.den
  have r3 := r3.den
  rw [d1] at r1; rw [d2] at r2; rw [d3] at r3
  rw [r1.inv_int] at e1; rw [r2.inv_int] at e2; rw [r3.inv_int] at e3
  subst e4; subst e3; subst e2
  have : args' = #[.int .i64 n, .int .i64 lo, .int .i64 hi] := Array.toList_inj.1 e1
  subst this
  obtain ⟨c, hb⟩ : ∃ c, Try.f16.body = some c := ⟨_, rfl⟩
  refine .inr ⟨enters_name Try.func16 hb _ w, (within_any n lo hi w h1 h2 h3).mono ?_⟩
  rintro en w' ⟨rfl, rfl⟩
  have h5 := Int.emod_nonneg n (by omega : hi - lo + 1 ≠ 0)
  have h6 := Int.emod_lt_of_pos n (by omega : 0 < hi - lo + 1)
  exact ⟨_, rfl, _, h, μ, hK (lo + n % (hi - lo + 1)) ⟨by show lo ≤ _; omega, by show _ ≤ hi; omega⟩, cout_below hrel hfree (Below.refl _ _) (.zero (.mark (.plain rfl) rfl))⟩
end Go.Proofs.Ytgegjbapgccbaaa
