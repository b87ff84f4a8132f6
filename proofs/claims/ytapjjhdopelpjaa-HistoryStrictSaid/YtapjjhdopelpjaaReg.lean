import Derived.Test.YtapjjhdopelpjaaK0
import Derived.OrdersHeld
import Derived.Deep.RegionHeld
namespace Go.Proofs.K
set_option linter.unusedVariables false
set_option linter.unusedSimpArgs false
open Go

section
variable {P : Program} {ops : Array Oper} {Q : Exit → Act → World → Prop} {md : Region.Mode} {S : World → Prop} {n : Nat}

/-- Whatever order is picked: S holds behind every operation but number n, which comes last. -/
def wpAnyN (P : Program) (md : Region.Mode) (ops : Array Oper) (Q : Exit → Act → World → Prop) (S : World → Prop) (n : Nat) : Nat → Array Bool → Act → World → Prop
  | 0, listed, a, w => Region.ready md ops listed = [] ∧ Q .normal a w
  | fuel + 1, listed, a, w =>
    (Region.ready md ops listed = [] → Q .normal a w) ∧
    ∀ i ∈ Region.ready md ops listed, wpOp P ops Q i (fun a' w' => (i = n ∨ S w') ∧ wpAnyN P md ops Q S n fuel (listed.setIfInBounds i true) a' w') a w

theorem wpAny_of_N : ∀ (fuel : Nat) (listed : Array Bool) (a : Act) (w : World), wpAnyN P md ops Q S n fuel listed a w → wpAny P md ops Q fuel listed a w
  | 0, _, _, _, h => h
  | fuel + 1, _, _, _, h => ⟨h.1, fun i hi => wpOp_mono (fun a' w' h' => wpAny_of_N fuel _ a' w' h'.2) (h.2 i hi)⟩

/-- Number n waits for number i (or there is no number n). -/
def lastB (md : Region.Mode) (ops : Array Oper) (n i : Nat) : Bool :=
  Nat.ble ops.size n || ((ops[n]?).map fun o => o.after.any fun e => Region.binds md e && e.on == i).getD false
theorem lastB_spec {i : Nat} (h : lastB md ops n i = true) : ∀ {on : Oper}, ops[n]? = some on → ∃ e ∈ on.after, Region.binds md e = true ∧ e.on = i := by
  intro on hn
  have hn0 := (Array.getElem?_eq_some_iff.1 hn).1
  have h1 : (((ops[n]?).map fun o => o.after.any fun e => Region.binds md e && e.on == i).getD false) = true := by
    unfold lastB at h
    have : Nat.ble ops.size n = false := by
      cases hb : Nat.ble ops.size n with
      | false => rfl
      | true => have := Nat.le_of_ble_eq_true hb; omega
    simpa [this] using h
  simp only [hn, Option.map_some, Option.getD_some] at h1
  rw [Array.any_eq_true'] at h1
  obtain ⟨e, he, hb⟩ := h1
  simp only [Bool.and_eq_true, beq_iff_eq] at hb
  exact ⟨e, he, hb.1, hb.2⟩

theorem wpAnyN_first {i : Nat} {oi : Oper} {v : Value} (hi : ops[i]? = some oi) (hsel : ∀ (j : Nat) (o : Oper) cs b, ops[j]? = some o → o.op ≠ .select cs b)
    (hQ : ∀ c a w, Q (.panic c) (a.put oi.dst v) w → Q (.panic c) a w) (hl : lastB md ops n i = true) (hin : i ≠ n) :
    ∀ (fuel : Nat) (listed : Array Bool) (a : Act) (w : World),
      (∀ j oj, ops[j]? = some oj → j ≠ i → listed.getD j true = false → (∀ e ∈ oj.after, Region.binds md e = true → e.on ≠ i) → oi.apart ops oj = true) →
      i ∈ Region.ready md ops listed → YieldsIf P ops S oi v a → S w →
      wpAnyN P md ops Q S n fuel (listed.setIfInBounds i true) (a.put oi.dst v) w → wpAnyN P md ops Q S n (fuel + 1) listed a w := by
  intro fuel
  induction fuel with
  | zero =>
    intro listed a w _ hr hy hS H
    refine ⟨fun h => (by rw [h] at hr; cases hr), fun j hj => ?_⟩
    by_cases hji : j = i
    · subst hji; exact hy.wpOp hi hS ⟨.inr hS, H⟩
    · have := ready_mono hj hji
      rw [H.1] at this
      cases this
  | succ fuel ih =>
    intro listed a w hfree hr hy hS H
    refine ⟨fun h => (by rw [h] at hr; cases hr), fun j hj => ?_⟩
    by_cases hji : j = i
    · subst hji; exact hy.wpOp hi hS ⟨.inr hS, H⟩
    · have h1 := H.2 j (ready_mono hj hji)
      obtain ⟨hjun, oj, hoj, hall⟩ := mem_ready.1 hj
      have hnot : ∀ e ∈ oj.after, Region.binds md e = true → e.on ≠ i := fun e he hb heq => by
        have h1 := hall e he hb
        have h0 := (mem_ready.1 hr).1
        rw [heq] at h1
        rcases Nat.lt_or_ge i listed.size with h' | h'
        · simp [h'] at h0 h1; rw [h0] at h1; cases h1
        · simp [Array.getElem?_eq_none h'] at h1
      have hjn : j ≠ n := fun e => by
        subst e
        obtain ⟨e, he, hb, heq⟩ := lastB_spec hl hoj
        exact hnot e he hb heq
      have h2 := wpOp_putIf hoj (hfree j oj hoj hji hjun hnot) (fun cs b => hsel i oi cs b hi) (fun cs b => hsel j oj cs b hoj) hQ hy h1
      have hfree' : ∀ k ok, ops[k]? = some ok → k ≠ i → (listed.setIfInBounds j true).getD k true = false →
          (∀ e ∈ ok.after, Region.binds md e = true → e.on ≠ i) → oi.apart ops ok = true := fun k ok hk hki hun hno => by
        refine hfree k ok hk hki ?_ hno
        by_cases hjk : j = k
        · subst hjk; exact hjun
        · rw [getD_set_ne true hjk] at hun; exact hun
      refine wpOp_mono (fun a' w' h3 => ?_) h2
      have hS' := h3.2.1.resolve_left hjn
      refine ⟨.inr hS', ih (listed.setIfInBounds j true) a' w' hfree' (ready_mono hr (Ne.symm hji)) h3.1 hS' ?_⟩
      rw [Array.setIfInBounds_comm _ _ hji]
      exact h3.2.2

/-- Take number i first. -/
theorem wpN_take {i : Nat} {oi : Oper} {v : Value} {fuel : Nat} {listed : Array Bool} {a : Act} {w : World} (hi : ops[i]? = some oi) (hin : (i == n) = false)
    (hl : lastB md ops n i = true) (hs : Region.noSelect ops = true) (hf : Region.free md ops listed i = true) (hr : (Region.ready md ops listed).contains i = true)
    (hQ : ∀ c a w, Q (.panic c) (a.put oi.dst v) w → Q (.panic c) a w) (hy : YieldsIf P ops S oi v a) (hS : S w)
    (h : wpAnyN P md ops Q S n fuel (listed.setIfInBounds i true) (a.put oi.dst v) w) : wpAnyN P md ops Q S n (fuel + 1) listed a w :=
  wpAnyN_first hi (Region.noSelect_spec hs) hQ hl (by simpa using hin) fuel listed a w (Region.free_spec hi hf) (by simpa using hr) hy hS h
/-- One alone may come up: it does. -/
theorem wpN_only {i : Nat} {oi : Oper} {fuel : Nat} {listed : Array Bool} {a : Act} {w : World} (hi : ops[i]? = some oi) (hr : Region.ready md ops listed = [i])
    (h : ∀ K : Act → World → Prop, Shut (∀ a w, (i = n ∨ S w) → wpAnyN P md ops Q S n fuel (listed.setIfInBounds i true) a w → K a w) → if Region.wanted oi (yielded ops a.tmps) = true then Oper.wp P oi a w K Q else K (a.put oi.dst undef) w) :
    wpAnyN P md ops Q S n (fuel + 1) listed a w := by
  refine ⟨fun h0 => (by rw [hr] at h0; cases h0), fun j hj => ?_⟩
  rw [hr] at hj
  obtain rfl := List.mem_singleton.1 hj
  exact wpOp_step hi (fun K' hK => h K' (fun a w hS hW => hK a w ⟨hS, hW⟩))
/-- Two may come up: either does. -/
theorem wpN_two {i j : Nat} {oi oj : Oper} {fuel : Nat} {listed : Array Bool} {a : Act} {w : World} (hi : ops[i]? = some oi) (hj : ops[j]? = some oj) (hr : Region.ready md ops listed = [i, j])
    (h1 : ∀ K : Act → World → Prop, Shut (∀ a w, (i = n ∨ S w) → wpAnyN P md ops Q S n fuel (listed.setIfInBounds i true) a w → K a w) → if Region.wanted oi (yielded ops a.tmps) = true then Oper.wp P oi a w K Q else K (a.put oi.dst undef) w)
    (h2 : ∀ K : Act → World → Prop, Shut (∀ a w, (j = n ∨ S w) → wpAnyN P md ops Q S n fuel (listed.setIfInBounds j true) a w → K a w) → if Region.wanted oj (yielded ops a.tmps) = true then Oper.wp P oj a w K Q else K (a.put oj.dst undef) w) :
    wpAnyN P md ops Q S n (fuel + 1) listed a w := by
  refine ⟨fun h0 => (by rw [hr] at h0; cases h0), fun k hk => ?_⟩
  rw [hr] at hk
  rcases List.mem_cons.1 hk with rfl | hk
  · exact wpOp_step hi (fun K' hK => h1 K' (fun a w hS hW => hK a w ⟨hS, hW⟩))
  · obtain rfl := List.mem_singleton.1 hk
    exact wpOp_step hj (fun K' hK => h2 K' (fun a w hS hW => hK a w ⟨hS, hW⟩))
theorem goto {K R : Act → World → Prop} {p : Prop} {T : World → Prop} (hK : Shut (∀ a w, (p ∨ T w) → R a w → K a w)) {a : Act} {w : World} (hS : T w) (h : T w → R a w) : K a w := hK.out a w (.inr hS) (h hS)
theorem wpN_done {listed : Array Bool} {a : Act} {w : World} (hr : Region.ready md ops listed = []) (h : Q .normal a w) : ∀ fuel, wpAnyN P md ops Q S n fuel listed a w
  | 0 => ⟨hr, h⟩
  | _ + 1 => ⟨fun _ => h, by rw [hr]; simp⟩
theorem wpN_begin {id : Nat} {a : Act} {w : World} (n : Nat) (S : World → Prop) (hm : P.follows .mixedOrders = true) (h : wpAnyN P .any ops Q S n ops.size (Array.replicate ops.size false) a w.drew) : (Code.region id ops true).wp P Q a w :=
  wp_region_any hm (wpAny_of_N _ _ _ _ h)
end

open Go.RowKit in
theorem Blk.below {w w1 : World} {b t : Nat} {cs : List Value} (h : Blk w b t cs) (hb : Below w.heap.size w w1) : Blk w1 b t cs := h.move (hb.block b h.lt)
theorem Blk.row {w : World} {b t : Nat} {α : Type} {enc : α → List Value} {x : α} {sz : Nat} (h : Blk w b t (enc x)) : RowOf enc sz w (some ⟨b, 0, none⟩) [x] := RowOf.one fun j v hv => by rw [Nat.zero_add]; exact (h.cell j).trans hv
theorem RowOf.chg {w w1 : World} {F : Nat → Prop} {b off : Nat} {α : Type} {enc : α → List Value} {l : List α} {sz : Nat} (h : RowOf enc sz w (some ⟨b, off, none⟩) l) (c : Chg F w w1) (hf : ¬ F b) : RowOf enc sz w1 (some ⟨b, off, none⟩) l := fun k hk => by
  obtain ⟨b', off', e, hc⟩ := h k hk
  injection e with e
  injection e with e1 e2 e3
  subst e1 e2
  exact ⟨b, off, rfl, fun j v hv => c.cell_of (hc j v hv) hf⟩
theorem Blk.rows {w : World} {b t : Nat} {α : Type} {enc : α → List Value} {l : List α} {sz : Nat} (hs : ∀ x, (enc x).length = sz) (h : Blk w b t (l.flatMap enc)) : RowOf enc sz w (some ⟨b, 0, none⟩) l := fun k hk => ⟨b, 0, rfl, fun j v hv => by
  rw [Nat.zero_add, h.cell]
  have hj : j < sz := by rw [← hs l[k]]; exact (List.getElem?_eq_some_iff.1 hv).1
  rw [flat_get hs l k j hk hj]
  exact hv⟩
end Go.Proofs.K
