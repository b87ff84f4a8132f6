/-
PROVED: quadrigalaw31.HistoryStrict answers true for every input that it can be called with, and what it was given reads as it did. Conditions: none.
-/
import Derived.Test.YtapjjhdopelpjaaRows
import Derived.Test.YtapjjhdopelpjaaLst
import Derived.Test.YtapjjhdopelpjaaOpv
import Derived.WalkKit
import Derived.ProofKit
import Derived.OpenShut
import Derived.ShutString
import Derived.ChangeMaps5
import Derived.ChangeOld
import Derived.Below
import Derived.SizedLaws
namespace Go.Proofs.Ytapjjhdopelpjaa.historyStrict
open Go.ChangeShapes Go.WideShapes Go.ChangeAt Go.RowKit Go.Deep Go.Proofs.K
set_option linter.unusedVariables false
set_option linter.unusedSimpArgs false
theorem own : ownKnob Try.prog.godebug = none := by kernel_rfl
theorem laidOut : laidOutB Try.prog = true := by kernel_rfl

set_option maxRecDepth 100000 in
theorem lifted (os : Os) (started : os.Started) (H : Type) (enc : TypeId × Value → H) :
    ReturnsInHanded {} Try.checked os 4 .any (Rows.historyStrictSpec.pre6 enc Try.prog Try.f4 Rows.historyStrictRow.domain false) (Rows.historyStrictSpec.post enc Try.prog Try.f4 false true false false) := by
  refine returnsInHanded_of_change_sized (C := Try.checked) own started (by kernel_rfl) Try.func4
    (ChangeSpec.witness6 (enc := enc) (C := Try.checked) false ⟨#[], #[.slice none 0 0, .int .i64 0], []⟩ 8 (by kernel_rfl) (by kernel_rfl) (by kernel_rfl) (by kernel_rfl)) ?_
  intro W base args ds gs before hval0 hW hcnd hsz0 _
  have hval : ∀ (j : Nat) t v, Try.f4.params[j]? = some t → args[j]? = some v → Value.okWide Try.prog W .any base t v := hval0
  have hW' := hW
  obtain ⟨p, q, hA0, hV, rfl, hfz, hnd⟩ := hW
  have hA : DataW.TrodAll enc Try.prog W 0 (fun _ => true) true Try.f4.params.toList args.toList ds p := hA0
  rw [Try.params4] at hA hval
  obtain ⟨v0, vs0, d0, ds0, p0, q0, ha0, rfl, rfl, h0, r0⟩ := trodAll_cons hA
  obtain ⟨v1, vs1, d1, ds1, p1, q1, ha1, rfl, rfl, h1, r1⟩ := trodAll_cons r0
  obtain ⟨ha2, rfl, rfl⟩ := trodAll_nil r1
  subst ha2 ha1
  obtain rfl : args = #[v0, v1] := by cases args; simp_all
  obtain ⟨rfl, rfl⟩ := trodVars_none hV
  have hv0 : Value.okWide Try.prog W .any base 22 v0 := hval 0 22 v0 rfl rfl
  have hv1 : Value.okWide Try.prog W .any base 3 v1 := hval 1 3 v1 rfl rfl
  have k0 := h0
  have lt0 : ∀ x ∈ p0, x.block < W.heap.size := by obtain ⟨m, hm⟩ := k0; exact DataW.trod_lt m _ _ _ hm
  have k1 := h1
  have lt1 : ∀ x ∈ p1, x.block < W.heap.size := by obtain ⟨m, hm⟩ := k1; exact DataW.trod_lt m _ _ _ hm
  clear hA0 hval0 hsz0 hval
  obtain ⟨a0, len0, cap0, rfl⟩ := okWide_slice Try.underlying22 hv0
  obtain ⟨l0, rfl, hlc0, hcm0, hrow0, hq0⟩ : ∃ l : List EV, l.length = len0 ∧ len0 ≤ cap0 ∧ cap0 ≤ maxLen ∧ RowOf encEV 3 W a0 l ∧ ∀ x ∈ l, True := by
    obtain ⟨fuel, hf⟩ := h0
    exact open_rows Try.underlying22 c_ev (fun _ => rfl) (by omega) (fun _ _ _ h => open_ev h) hf
  obtain ⟨n1, rfl, _⟩ := open_int Try.underlying3 hv1 h1
  refine (lawStrict_calls a0 cap0 l0 n1 W hrow0 (by have h := Nat.le_trans hlc0 hcm0; unfold maxLen at h; omega) hlc0 hcm0).mono fun e W' ⟨he, bel⟩ => ?_
  subst he
  exact ⟨_, rfl, _, _, _, [], _, [], hW', trodAll_mk1 (shut_bool Try.underlying4 _), (trodAll_cons_mk (Below.trod laidOut (by kernel_rfl) (of_decide_eq_true (by kernel_rfl)) k0 bel lt0) (trodAll_cons_mk (Below.trod laidOut (by kernel_rfl) (of_decide_eq_true (by kernel_rfl)) k1 bel lt1) trodAll_mk0)), rfl, bel.frame _, fun h => by cases h⟩
theorem over : Rows.historyStrictRow.holds Try.pinned (OpenSpec.ofChange Rows.historyStrictSpec) :=
  OpenClaim.holds_of_wide 4 Try.f4 rfl rfl rfl rfl rfl rfl rfl ⟨rfl, rfl, rfl, rfl, rfl⟩ rfl rfl rfl rfl rfl (by kernel_rfl) Try.func4 (by kernel_rfl)
    (of_decide_eq_true (by kernel_rfl)) (by unfold Func.isWrapper; first | (rw [if_pos (by decide +kernel)]; kernel_rfl) | (rw [if_neg (by decide +kernel)]; exact ⟨rfl, rfl⟩))
    (fun os started H enc _ => lifted os started H enc)
theorem proved : Rows.HistoryStrictSaid := over
end Go.Proofs.Ytapjjhdopelpjaa.historyStrict
namespace Go.Proofs.Ytapjjhdopelpjaa
/-- The row, under a short name, for the claim. -/
theorem historyStrict_holds : Rows.HistoryStrictSaid := historyStrict.proved
#print axioms historyStrict_holds
end Go.Proofs.Ytapjjhdopelpjaa

