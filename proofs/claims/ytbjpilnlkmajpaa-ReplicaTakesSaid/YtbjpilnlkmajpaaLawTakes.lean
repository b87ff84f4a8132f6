/-
PROVED: quadrigalaw34.ReplicaTakes answers true for every input that it can be called with, and what it was given reads as it did. Conditions: none.
-/
import Derived.Test.YtbjpilnlkmajpaaRows
import Derived.Test.YtbjpilnlkmajpaaRlaw
import Derived.Test.YtbjpilnlkmajpaaOpr
import Derived.WalkKit
import Derived.ProofKit
import Derived.OpenShut
import Derived.ShutString
import Derived.ChangeMaps5
import Derived.ChangeOld
import Derived.Below
import Derived.SizedLaws
namespace Go.Proofs.Ytbjpilnlkmajpaa.replicaTakes
open Go.ChangeShapes Go.WideShapes Go.ChangeAt Go.RowKit Go.Deep Go.Proofs.K
set_option linter.unusedVariables false
set_option linter.unusedSimpArgs false
theorem own : ownKnob Try.prog.godebug = none := by kernel_rfl
theorem laidOut : laidOutB Try.prog = true := by kernel_rfl

instance : Inhabited BR := ⟨ax⟩
instance : Inhabited CL := ⟨⟨⟨#[]⟩, ⟨#[]⟩⟩⟩
theorem c_cell : Try.prog.cellsOf 39 = 2 := by kernel_rfl
theorem c_u8 : Try.prog.cellsOf 5 = 1 := by kernel_rfl
theorem open_cell {H : Type} {enc : TypeId × Value → H} {w : World} {base : Nat} {spare : Nat → Bool} {held : Bool} {fuel : Nat} {cs : List Value} {x : DataW H × List MemPlace} (h : DataW.trod enc Try.prog w base spare held fuel 39 cs = some x) : ∃ v : CL, cs = encCell v ∧ True := by
  obtain ⟨y0, y1, n, _, hl, h0, h1⟩ := trod_struct2 Try.underlying39 h
  rw [c_cell] at hl
  obtain ⟨u0, u1, rfl⟩ := len2 hl
  dsimp only at h0 h1
  rw [c_str] at h0 h1
  obtain ⟨b, e0, _⟩ := DataW.trod_string Try.underlying9 h0
  obtain ⟨s, e1, _⟩ := DataW.trod_string Try.underlying9 h1
  simp at e0 e1
  subst e0 e1
  exact ⟨⟨b, s⟩, rfl, trivial⟩
theorem open_u8 {H : Type} {enc : TypeId × Value → H} {w : World} {base : Nat} {spare : Nat → Bool} {held : Bool} {fuel : Nat} {cs : List Value} {x : DataW H × List MemPlace} (h : DataW.trod enc Try.prog w base spare held fuel 5 cs = some x) : ∃ v : Int, cs = encB v ∧ (0 ≤ v ∧ v < 256) := by
  obtain ⟨k, e, _, hw⟩ := DataW.trod_int Try.underlying5 h
  subst e
  refine ⟨k, rfl, ?_⟩
  simp [Lit.wf, IntKind.min, IntKind.max, IntKind.signed, IntKind.bits] at hw
  omega

set_option maxRecDepth 100000 in
theorem lifted (os : Os) (started : os.Started) (H : Type) (enc : TypeId × Value → H) :
    ReturnsInHanded {} Try.checked os 3 .any (Rows.replicaTakesSpec.pre6 enc Try.prog Try.f3 Rows.replicaTakesRow.domain false) (Rows.replicaTakesSpec.post enc Try.prog Try.f3 false true false false) := by
  refine returnsInHanded_of_change_sized (C := Try.checked) own started (by kernel_rfl) Try.func3
    (ChangeSpec.witness6 (enc := enc) (C := Try.checked) false ⟨#[], #[.slice none 0 0, .slice none 0 0, .slice none 0 0, .string ⟨#[]⟩], []⟩ 8 (by kernel_rfl) (by kernel_rfl) (by kernel_rfl) (by kernel_rfl)) ?_
  intro W base args ds gs before hval0 hW hcnd hsz0 _
  have hval : ∀ (j : Nat) t v, Try.f3.params[j]? = some t → args[j]? = some v → Value.okWide Try.prog W .any base t v := hval0
  have hW' := hW
  obtain ⟨p, q, hA0, hV, rfl, hfz, hnd⟩ := hW
  have hA : DataW.TrodAll enc Try.prog W 0 (fun _ => true) true Try.f3.params.toList args.toList ds p := hA0
  rw [Try.params3] at hA hval
  obtain ⟨v0, vs0, d0, ds0, p0, q0, ha0, rfl, rfl, h0, r0⟩ := trodAll_cons hA
  obtain ⟨v1, vs1, d1, ds1, p1, q1, ha1, rfl, rfl, h1, r1⟩ := trodAll_cons r0
  obtain ⟨v2, vs2, d2, ds2, p2, q2, ha2, rfl, rfl, h2, r2⟩ := trodAll_cons r1
  obtain ⟨v3, vs3, d3, ds3, p3, q3, ha3, rfl, rfl, h3, r3⟩ := trodAll_cons r2
  obtain ⟨ha4, rfl, rfl⟩ := trodAll_nil r3
  subst ha4 ha3 ha2 ha1
  obtain rfl : args = #[v0, v1, v2, v3] := by cases args; simp_all
  obtain ⟨rfl, rfl⟩ := trodVars_none hV
  have hv0 : Value.okWide Try.prog W .any base 22 v0 := hval 0 22 v0 rfl rfl
  have hv1 : Value.okWide Try.prog W .any base 23 v1 := hval 1 23 v1 rfl rfl
  have hv2 : Value.okWide Try.prog W .any base 24 v2 := hval 2 24 v2 rfl rfl
  have hv3 : Value.okWide Try.prog W .any base 9 v3 := hval 3 9 v3 rfl rfl
  have k0 := h0
  have lt0 : ∀ x ∈ p0, x.block < W.heap.size := by obtain ⟨m, hm⟩ := k0; exact DataW.trod_lt m _ _ _ hm
  have k1 := h1
  have lt1 : ∀ x ∈ p1, x.block < W.heap.size := by obtain ⟨m, hm⟩ := k1; exact DataW.trod_lt m _ _ _ hm
  have k2 := h2
  have lt2 : ∀ x ∈ p2, x.block < W.heap.size := by obtain ⟨m, hm⟩ := k2; exact DataW.trod_lt m _ _ _ hm
  have k3 := h3
  have lt3 : ∀ x ∈ p3, x.block < W.heap.size := by obtain ⟨m, hm⟩ := k3; exact DataW.trod_lt m _ _ _ hm
  clear hA0 hval0 hsz0 hval
  obtain ⟨a0, len0, cap0, rfl⟩ := okWide_slice Try.underlying22 hv0
  obtain ⟨l0, rfl, hlc0, hcm0, hrow0, hq0⟩ : ∃ l : List CL, l.length = len0 ∧ len0 ≤ cap0 ∧ cap0 ≤ maxLen ∧ RowOf encCell 2 W a0 l ∧ ∀ x ∈ l, True := by
    obtain ⟨fuel, hf⟩ := h0
    exact open_rows Try.underlying22 c_cell (fun _ => rfl) (by omega) (fun _ _ _ h => open_cell h) hf
  obtain ⟨a1, len1, cap1, rfl⟩ := okWide_slice Try.underlying23 hv1
  obtain ⟨l1, rfl, hlc1, hcm1, hrow1, hq1⟩ : ∃ l : List BR, l.length = len1 ∧ len1 ≤ cap1 ∧ cap1 ≤ maxLen ∧ RowOf encBR 12 W a1 l ∧ ∀ x ∈ l, (Lit.int .i64 x.r.txn).wf = true := by
    obtain ⟨fuel, hf⟩ := h1
    exact open_rows Try.underlying23 c_brec (fun _ => rfl) (by omega) (fun _ _ _ h => open_brec h) hf
  obtain ⟨a2, len2, cap2, rfl⟩ := okWide_slice Try.underlying24 hv2
  obtain ⟨l2, rfl, hlc2, hcm2, hrow2, hq2⟩ : ∃ l : List Int, l.length = len2 ∧ len2 ≤ cap2 ∧ cap2 ≤ maxLen ∧ RowOf encB 1 W a2 l ∧ ∀ x ∈ l, (0 ≤ x ∧ x < 256) := by
    obtain ⟨fuel, hf⟩ := h2
    exact open_rows Try.underlying24 c_u8 (fun _ => rfl) (by omega) (fun _ _ _ h => open_u8 h) hf
  obtain ⟨s3, rfl, _, _, hs3⟩ := ChangeMaps.open_string Try.underlying9 hv3 h3
  refine (rtakes_calls a0 a1 a2 cap0 cap1 cap2 l0 l1 l2 s3 W hrow0 hrow1 hrow2 hlc1 hcm1 (Nat.le_trans hlc0 hcm0) (Nat.le_trans hlc2 hcm2) hq1 hq2 hs3).mono fun e W' ⟨he, bel⟩ => ?_
  subst he
  exact ⟨_, rfl, _, _, _, [], _, [], hW', trodAll_mk1 (shut_bool Try.underlying4 _), (trodAll_cons_mk (Below.trod laidOut (by kernel_rfl) (of_decide_eq_true (by kernel_rfl)) k0 bel lt0) (trodAll_cons_mk (Below.trod laidOut (by kernel_rfl) (of_decide_eq_true (by kernel_rfl)) k1 bel lt1) (trodAll_cons_mk (Below.trod laidOut (by kernel_rfl) (of_decide_eq_true (by kernel_rfl)) k2 bel lt2) (trodAll_cons_mk (Below.trod laidOut (by kernel_rfl) (of_decide_eq_true (by kernel_rfl)) k3 bel lt3) trodAll_mk0)))), rfl, bel.frame _, fun h => by cases h⟩
theorem over : Rows.replicaTakesRow.holds Try.pinned (OpenSpec.ofChange Rows.replicaTakesSpec) :=
  OpenClaim.holds_of_wide 3 Try.f3 rfl rfl rfl rfl rfl rfl rfl ⟨rfl, rfl, rfl, rfl, rfl⟩ rfl rfl rfl rfl rfl (by kernel_rfl) Try.func3 (by kernel_rfl)
    (of_decide_eq_true (by kernel_rfl)) (by unfold Func.isWrapper; first | (rw [if_pos (by decide +kernel)]; kernel_rfl) | (rw [if_neg (by decide +kernel)]; exact ⟨rfl, rfl⟩))
    (fun os started H enc _ => lifted os started H enc)
theorem proved : Rows.ReplicaTakesSaid := over
end Go.Proofs.Ytbjpilnlkmajpaa.replicaTakes
namespace Go.Proofs.Ytbjpilnlkmajpaa
/-- The row, under a short name, for the claim. -/
theorem replicaTakes_holds : Rows.ReplicaTakesSaid := replicaTakes.proved
#print axioms replicaTakes_holds
end Go.Proofs.Ytbjpilnlkmajpaa

