/-
PROVED: quadrigalaw34.ReplicaParts answers true for every input that it can be called with, and what it was given reads as it did. Conditions: none.
-/
import Derived.Test.YtbjpilnlkmajpaaRows
import Derived.Test.YtbjpilnlkmajpaaParts
import Derived.Test.YtbjpilnlkmajpaaOpn
import Derived.WalkKit
import Derived.ProofKit
import Derived.OpenShut
import Derived.ShutString
import Derived.ChangeOld
import Derived.Below
import Derived.SizedLaws
namespace Go.Proofs.Ytbjpilnlkmajpaa.replicaParts
set_option linter.unusedVariables false
set_option linter.unusedSimpArgs false
open Go.ChangeShapes Go.WideShapes Go.ChangeAt Go.RowKit Go.Deep Go.Proofs.K
theorem own : ownKnob Try.prog.godebug = none := by kernel_rfl
theorem laidOut : laidOutB Try.prog = true := by kernel_rfl
instance : Inhabited BR := ⟨ax⟩

theorem rows {H : Type} {enc : TypeId × Value → H} {W : World} {a : Option Addr} {len cap fuel : Nat} {x : DataW H × List MemPlace}
    (hf : DataW.trod enc Try.prog W 0 (fun _ => true) true fuel 23 [.slice a len cap] = some x) :
    ∃ l : List BR, l.length = len ∧ len ≤ cap ∧ cap ≤ maxLen ∧ RowOf encBR 12 W a l ∧ ∀ x ∈ l, (Lit.int .i64 x.r.txn).wf = true := by
  rcases open_slice Try.underlying23 hf with ⟨hcs, _⟩ | ⟨a', len', cap', m, n, D, Pl, hcs, hb, hl, hm, hmm, _, hx⟩
  · injection hcs with hcs
    injection hcs with h1 h2 h3
    subst h1 h2 h3
    exact ⟨[], rfl, Nat.le_refl _, Nat.zero_le _, RowOf.nil _ _, by simp⟩
  · injection hcs with hcs
    injection hcs with h1 h2 h3
    subst h1 h2 h3
    have hmm' : m = cap := by simpa using hmm
    subst hmm'
    rw [c_brec] at hx
    obtain ⟨f, hff⟩ := choose_lt (α := BR) (n := m) (p := fun i r => W.cells? 0 (a'.add (i * 12)) 12 = some (encBR r) ∧ (Lit.int .i64 r.r.txn).wf = true) (fun i hi => by
      obtain ⟨cs', h1, h2⟩ := hx i hi
      obtain ⟨r, rfl, hw⟩ := open_brec h2
      exact ⟨r, h1, hw⟩)
    refine ⟨(List.range len).map f, by simp, hl, hm, ?_, ?_⟩
    · intro k hk
      have hk' : k < len := by simpa using hk
      have hc := fun i hi => (World.cells?_some (hff i hi).1).2.2
      have h00 := hc 0 (by omega) 0 (by omega)
      have hsp : a'.spot = none := by
        rw [show (0 : Nat) * 12 = 0 from rfl, show (a'.add 0).add 0 = a' from rfl] at h00
        exact World.cell?_spot (h00.trans rfl)
      obtain ⟨ab, ao, asp⟩ := a'
      dsimp only at hsp
      subst hsp
      refine ⟨ab, ao, rfl, fun j v hv => ?_⟩
      have hj : j < 12 := (List.getElem?_eq_some_iff.1 hv).1
      have h := hc k (by omega) j hj
      rw [add_add] at h
      have e : (⟨ab, ao, none⟩ : Addr).add (k * 12 + j) = ⟨ab, ao + k * 12 + j, none⟩ := by
        unfold Addr.add
        split <;> simp <;> omega
      rw [e] at h
      rw [h]
      simpa using hv
    · intro x hx
      obtain ⟨i, hi, rfl⟩ := List.mem_map.1 hx
      exact (hff i (by have := List.mem_range.1 hi; omega)).2

set_option maxRecDepth 100000 in
theorem lifted (os : Os) (started : os.Started) (H : Type) (enc : TypeId × Value → H) :
    ReturnsInHanded {} Try.checked os 4 .any (Rows.replicaPartsSpec.pre6 enc Try.prog Try.f4 Rows.replicaPartsRow.domain false) (Rows.replicaPartsSpec.post enc Try.prog Try.f4 false true false false) := by
  refine returnsInHanded_of_change_sized (C := Try.checked) own started (by kernel_rfl) Try.func4
    (ChangeSpec.witness6 (enc := enc) (C := Try.checked) false ⟨#[], #[.slice none 0 0], []⟩ 8 (by kernel_rfl) (by kernel_rfl) (by kernel_rfl) (by kernel_rfl)) ?_
  intro W base args ds gs before hval0 hW hcnd hsz0 _
  have hval : ∀ (j : Nat) t v, Try.f4.params[j]? = some t → args[j]? = some v → Value.okWide Try.prog W .any base t v := hval0
  have hW' := hW
  obtain ⟨p, q, hA0, hV, rfl, hfz, hnd⟩ := hW
  have hA : DataW.TrodAll enc Try.prog W 0 (fun _ => true) true Try.f4.params.toList args.toList ds p := hA0
  rw [Try.params4] at hA hval
  obtain ⟨v0, vs0, d0, ds0, p0, q0, hargs, rfl, rfl, h0, r0⟩ := trodAll_cons hA
  obtain ⟨rfl, rfl, rfl⟩ := trodAll_nil r0
  obtain rfl : args = #[v0] := by cases args; simp_all
  obtain ⟨rfl, rfl⟩ := trodVars_none hV
  obtain ⟨a0, len0, cap0, rfl⟩ := okWide_slice Try.underlying23 (hval 0 23 v0 rfl rfl)
  have k0 := h0
  have lt0 : ∀ x ∈ p0, x.block < W.heap.size := by obtain ⟨m, hm⟩ := k0; exact DataW.trod_lt m _ _ _ hm
  obtain ⟨l, rfl, hlc, hcm, hrow, hwf⟩ : ∃ l : List BR, l.length = len0 ∧ len0 ≤ cap0 ∧ cap0 ≤ maxLen ∧ RowOf encBR 12 W a0 l ∧ ∀ x ∈ l, (Lit.int .i64 x.r.txn).wf = true := by
    obtain ⟨fuel, hf⟩ := h0
    exact rows hf
  clear hA0 hval0 hsz0
  refine (parts_calls a0 cap0 l W hrow (by unfold maxLen at hcm; omega) hlc hcm hwf).mono fun e W' ⟨he, bel⟩ => ?_
  subst he
  exact ⟨_, rfl, _, _, _, [], _, [], hW', trodAll_mk1 (shut_bool Try.underlying4 _), (trodAll_cons_mk (Below.trod laidOut (by kernel_rfl) (of_decide_eq_true (by kernel_rfl)) k0 bel lt0) trodAll_mk0), rfl, bel.frame _, fun h => by cases h⟩
theorem over : Rows.replicaPartsRow.holds Try.pinned (OpenSpec.ofChange Rows.replicaPartsSpec) :=
  OpenClaim.holds_of_wide 4 Try.f4 rfl rfl rfl rfl rfl rfl rfl ⟨rfl, rfl, rfl, rfl, rfl⟩ rfl rfl rfl rfl rfl (by kernel_rfl) Try.func4 (by kernel_rfl)
    (of_decide_eq_true (by kernel_rfl)) (by unfold Func.isWrapper; first | (rw [if_pos (by decide +kernel)]; kernel_rfl) | (rw [if_neg (by decide +kernel)]; exact ⟨rfl, rfl⟩))
    (fun os started H enc _ => lifted os started H enc)
theorem proved : Rows.ReplicaPartsSaid := over
#print axioms proved
end Go.Proofs.Ytbjpilnlkmajpaa.replicaParts
namespace Go.Proofs.Ytbjpilnlkmajpaa
/-- The row, under a short name, for the claim. -/
theorem replicaParts_holds : Rows.ReplicaPartsSaid := replicaParts.proved
end Go.Proofs.Ytbjpilnlkmajpaa
