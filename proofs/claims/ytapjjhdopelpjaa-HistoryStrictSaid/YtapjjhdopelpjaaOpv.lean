import Derived.Test.YtapjjhdopelpjaaSet4
import Derived.Test.YtapjjhdopelpjaaHis1
import Derived.ChangeSame
import Derived.Deep.Slices
import Derived.Deep.Strs
import Derived.ProofKit
import Derived.OpenShut
import Derived.ChangeOld
namespace Go.Proofs.Ytapjjhdopelpjaa
set_option linter.unusedVariables false
set_option linter.unusedSimpArgs false
open Go.RowKit Go.Proofs.K Go.ChangeShapes Go.WideShapes Go.ChangeAt Go.Deep
theorem c_int : Try.prog.cellsOf 3 = 1 := by kernel_rfl
theorem c_str : Try.prog.cellsOf 9 = 1 := by kernel_rfl
theorem c_ev : Try.prog.cellsOf 53 = 3 := by kernel_rfl
theorem len3 : ∀ {cs : List Value}, cs.length = 3 → ∃ a b c, cs = [a, b, c]
  | [a, b, c], _ => ⟨a, b, c, rfl⟩
theorem open_ev {H : Type} {enc : TypeId × Value → H} {w : World} {base : Nat} {spare : Nat → Bool} {held : Bool} {fuel : Nat} {cs : List Value} {x : DataW H × List MemPlace} (h : DataW.trod enc Try.prog w base spare held fuel 53 cs = some x) : ∃ v : EV, cs = encEV v ∧ True := by
  obtain ⟨y0, y1, y2, n, _, hl, h0, h1, h2⟩ := trod_struct3 Try.underlying53 h
  rw [c_ev] at hl
  obtain ⟨u0, u1, u2, rfl⟩ := len3 hl
  dsimp only at h0 h1 h2
  rw [c_int] at h0 h1
  rw [c_str] at h2
  obtain ⟨k0, e0, _, _⟩ := DataW.trod_int Try.underlying3 h0
  obtain ⟨k1, e1, _, _⟩ := DataW.trod_int Try.underlying3 h1
  obtain ⟨s, e2, _⟩ := DataW.trod_string Try.underlying9 h2
  simp at e0 e1 e2
  subst e0 e1 e2
  exact ⟨⟨k0, k1, s⟩, rfl, trivial⟩
instance : Inhabited EV := ⟨⟨0, 0, ⟨#[]⟩⟩⟩
/-- A slice that comes in, its elements opened one by one. -/
theorem open_rows {α : Type} [Inhabited α] {enc : α → List Value} {Q : α → Prop} {H : Type} {henc : TypeId × Value → H} {W : World} {t e sz : Nat} (ht : Try.prog.underlying t = some (.slice e)) (hC : Try.prog.cellsOf e = sz) (hs : ∀ x, (enc x).length = sz) (hpos : 0 < sz)
    (ho : ∀ (fuel : Nat) (cs : List Value) (x : DataW H × List MemPlace), DataW.trod henc Try.prog W 0 (fun _ => true) true fuel e cs = some x → ∃ r : α, cs = enc r ∧ Q r)
    {a : Option Addr} {len cap fuel : Nat} {x : DataW H × List MemPlace} (hf : DataW.trod henc Try.prog W 0 (fun _ => true) true fuel t [.slice a len cap] = some x) :
    ∃ l : List α, l.length = len ∧ len ≤ cap ∧ cap ≤ maxLen ∧ RowOf enc sz W a l ∧ ∀ x ∈ l, Q x := by
  rcases open_slice ht hf with ⟨hcs, _⟩ | ⟨a', len', cap', m, n, D, Pl, hcs, hb, hl, hm, hmm, _, hx⟩
  · injection hcs with hcs
    injection hcs with h1 h2 h3
    subst h1 h2 h3
    exact ⟨[], rfl, Nat.le_refl _, Nat.zero_le _, RowOf.nil _ _, by simp⟩
  · injection hcs with hcs
    injection hcs with h1 h2 h3
    subst h1 h2 h3
    have hmm' : m = cap := by simpa using hmm
    subst hmm'
    rw [hC] at hx
    obtain ⟨f, hff⟩ := choose_lt (α := α) (n := m) (p := fun i r => W.cells? 0 (a'.add (i * sz)) sz = some (enc r) ∧ Q r) (fun i hi => by
      obtain ⟨cs', h1, h2⟩ := hx i hi
      obtain ⟨r, rfl, hw⟩ := ho _ _ _ h2
      exact ⟨r, h1, hw⟩)
    refine ⟨(List.range len).map f, by simp, hl, hm, ?_, ?_⟩
    · intro k hk
      have hk' : k < len := by simpa using hk
      have hc := fun i hi => (World.cells?_some (hff i hi).1).2.2
      have h00 := hc 0 (by omega) 0 hpos
      have hsp : a'.spot = none := by
        rw [Nat.zero_mul, show (a'.add 0).add 0 = a' from rfl] at h00
        exact World.cell?_spot (h00.trans (List.getElem?_eq_getElem (by rw [hs]; exact hpos)))
      obtain ⟨ab, ao, asp⟩ := a'
      dsimp only at hsp
      subst hsp
      refine ⟨ab, ao, rfl, fun j v hv => ?_⟩
      have hj : j < sz := by rw [← hs (((List.range len).map f)[k])]; exact (List.getElem?_eq_some_iff.1 hv).1
      have h := hc k (by omega) j hj
      rw [add_add] at h
      have e : (⟨ab, ao, none⟩ : Addr).add (k * sz + j) = ⟨ab, ao + k * sz + j, none⟩ := by
        unfold Addr.add
        split
        · rename_i h0
          simp at h0 ⊢
          first | done | omega
        · simp
          first | done | omega
      rw [e] at h
      rw [h]
      simpa using hv
    · intro x hx
      obtain ⟨i, hi, rfl⟩ := List.mem_map.1 hx
      exact (hff i (by have := List.mem_range.1 hi; omega)).2
end Go.Proofs.Ytapjjhdopelpjaa
