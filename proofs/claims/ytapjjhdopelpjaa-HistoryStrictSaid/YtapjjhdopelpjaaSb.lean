import Derived.Test.YtapjjhdopelpjaaPsh
import Derived.Test.YtapjjhdopelpjaaReg
import Derived.Laws.IdiomCopy
import Derived.Deep.Upon
import Derived.Sort.Row
namespace Go.Proofs.Ytapjjhdopelpjaa
set_option linter.unusedVariables false
set_option linter.unusedSimpArgs false
open Go.RowKit Go.Maps Go.Proofs.K

theorem wpN_gen {P : Program} {md : Region.Mode} {ops : Array Oper} {Q : Exit → Act → World → Prop} {S : World → Prop} {n k : Nat} {ls : Array Bool} {a : Act} {w : World} (I : World → Prop) (h : I w) (hk : ∀ W, I W → wpAnyN P md ops Q S n k ls a W) : wpAnyN P md ops Q S n k ls a w := hk w h
theorem then_gen {K : Act → World → Prop} {Q : Exit → Act → World → Prop} {e : Exit} {a : Act} {w : World} (I : World → Prop) (h : I w) (hk : ∀ W, I W → Exit.then K Q e a W) : Exit.then K Q e a w := hk w h
theorem foldl_succ {α β : Type} (f : β → α → β) (b : β) (l : List α) (k : Nat) (h : k < l.length) {x : α} (hx : x = l[k]) : (l.take (k + 1)).foldl f b = f ((l.take k).foldl f b) x := by
  rw [List.take_succ_eq_append_getElem h, List.foldl_append, ← hx]
  rfl
theorem any_succ {α : Type} {f : α → Bool} {l : List α} {k : Nat} (hk : k < l.length) {x : α} (hx : x = l[k]) (h : (l.take k).any f = false) (hf : f x = false) : (l.take (k + 1)).any f = false := by
  rw [List.take_succ_eq_append_getElem hk, List.any_append, h, ← hx]
  simp [hf]
theorem own_ne {α : Type} {enc : α → List Value} {e sz t p : Nat} {w : World} {base : Nat} {v : Value} {l : List α} {cs : List Value} (h : Own enc e sz w base v l) (hb : Blk w p t cs) (hne : ¬ e = t) : ∀ k, v.ownBlock = some k → ¬ k = p := by
  rintro k hk rfl
  rcases h.2 with ⟨rfl, _⟩ | ⟨g, cap, cur, rfl, _, hh, _⟩
  · simp [Value.ownBlock] at hk
  · have : g = k := by simpa [Value.ownBlock] using hk
    subst this
    unfold Blk at hb
    rw [hb] at hh
    injection hh with hh
    injection hh with _ ht
    exact hne ht.symm
theorem own_own {α β : Type} {enc : α → List Value} {enc' : β → List Value} {e sz e' sz' : Nat} {w : World} {base base' : Nat} {v v' : Value} {l : List α} {l' : List β} (h : Own enc e sz w base v l) (h' : Own enc' e' sz' w base' v' l') (hne : ¬ e = e') : ∀ k, v.ownBlock = some k → v'.ownBlock ≠ some k := by
  intro k hk hk'
  rcases h.2 with ⟨rfl, _⟩ | ⟨g, cap, cur, rfl, _, hh, _⟩
  · simp [Value.ownBlock] at hk
  · have : g = k := by simpa [Value.ownBlock] using hk
    subst this
    rcases h'.2 with ⟨rfl, _⟩ | ⟨g', cap', cur', rfl, _, hh', _⟩
    · simp [Value.ownBlock] at hk'
    · have : g' = g := by simpa [Value.ownBlock] using hk'
      subst this
      rw [hh] at hh'
      injection hh' with hh'
      injection hh' with _ ht
      exact hne ht
theorem own_row {α : Type} {enc : α → List Value} {e sz : Nat} {w : World} {base n c : Nat} {A : Option Addr} {l : List α} (h : Own enc e sz w base (.slice A n c) l) (hs : ∀ x, (enc x).length = sz) : RowOf enc sz w A l ∧ n = l.length := by
  obtain ⟨A2, c2, hv, _, _, hr⟩ := h.reads hs
  injection hv with h1 h2 h3
  subst h1 h2
  exact ⟨hr, rfl⟩

def encInt (k : Int) : List Value := [.int .i64 k]
theorem E_int : Elem Try.prog encInt 31 3 1 8 where
  len _ := rfl
  one x u hu := by simp [encInt] at hu; subst hu; rfl
  ht := Try.underlying31
  info := by
    have i0 : (Try.prog.info? 3).map (fun i => (i.zero, i.size, i.bytes)) = some (some (.int .i64 0), 1, 8) := by kernel_rfl
    obtain ⟨i, h1, h2, h3, h4⟩ := info_parts i0
    exact ⟨i, _, h1, h2, h3, h4, rfl⟩
  pos := by omega

/-! Rows whose cells are written one by one. -/
theorem heap_setCells (g : Nat) (e : TypeId) (fr : Nat × Nat) : ∀ (vs : List Value) (o : Nat) (w : World) (cur : Array Value), w.heap[g]? = some (.cells cur e fr) →
    ∃ cur', (w.setCells g o vs).heap[g]? = some (.cells cur' e fr) ∧ cur'.size = cur.size
  | [], _, w, cur, h => ⟨cur, h, rfl⟩
  | v :: vs, o, w, cur, h => by
    have h1 : (w.setCell ⟨g, o, none⟩ v).heap[g]? = some (.cells (cur.setIfInBounds o v) e fr) := by
      simp [World.setCell, Array.getElem?_modify, h]
    obtain ⟨cur', h2, h3⟩ := heap_setCells g e fr vs (o + 1) (w.setCell ⟨g, o, none⟩ v) _ h1
    exact ⟨cur', h2, by rw [h3]; simp⟩
theorem cell_of {w : World} {g : Nat} {cur : Array Value} {e : TypeId} {fr : Nat × Nat} (h : w.heap[g]? = some (.cells cur e fr)) (j : Nat) : w.cell? ⟨g, j, none⟩ = cur[j]? := by
  simp [World.cell?, h]
/-- An own row, told by its cells. -/
theorem own_of_cells {w : World} {base g cap : Nat} {cur : Array Value} {l : List Int} (h : w.heap[g]? = some (.cells cur 3 (0, 0))) (hg : base ≤ g) (hs : cur.size = cap) (hn : l.length ≤ cap) (hc : cap ≤ maxLen)
    (hl : ∀ j (hj : j < l.length), w.cell? ⟨g, j, none⟩ = some (.int .i64 l[j])) : Own encInt 3 1 w base (.slice (some ⟨g, 0, none⟩) l.length cap) l := by
  have hfl : ∀ l : List Int, l.flatMap encInt = l.map (Value.int .i64) := fun l => by
    induction l with
    | nil => rfl
    | cons x r ih => rw [List.flatMap_cons, ih]; rfl
  refine ⟨by rw [hfl]; simp, .inr ⟨g, cap, cur, rfl, hg, h, hn, hc, by omega, ?_⟩⟩
  rw [hfl, Nat.mul_one]
  refine List.ext_getElem? fun j => ?_
  by_cases hj : j < l.length
  · rw [List.getElem?_take_of_lt hj, List.getElem?_map, List.getElem?_eq_getElem hj]
    have := hl j hj
    rw [cell_of h] at this
    simpa using this
  · rw [List.getElem?_eq_none (by simp; omega), List.getElem?_eq_none (by simp; omega)]
theorem own_block {w : World} {base g n cap : Nat} {l : List Int} (h : Own encInt 3 1 w base (.slice (some ⟨g, 0, none⟩) n cap) l) :
    ∃ cur, w.heap[g]? = some (.cells cur 3 (0, 0)) ∧ cur.size = cap ∧ n = l.length ∧ l.length ≤ cap ∧ cap ≤ maxLen ∧ base ≤ g ∧ ∀ j (hj : j < l.length), w.cell? ⟨g, j, none⟩ = some (.int .i64 l[j]) := by
  have hr := (own_row h (fun _ => rfl)).1
  rcases h.2 with ⟨h0, _⟩ | ⟨g', cap', cur, h0, hg, hh, hn, hc, hs, _⟩
  · cases h0
  · injection h0 with h1 h2 h3
    injection h1 with h1
    injection h1 with h1
    subst h1 h2 h3
    refine ⟨cur, hh, by omega, rfl, hn, hc, hg, fun j hj => ?_⟩
    obtain ⟨b, off, e, hcc⟩ := hr j hj
    injection e with e
    injection e with e1 e2
    subst e1 e2
    have := hcc 0 _ rfl
    simpa using this
theorem chg_setCells (w : World) (g o : Nat) (vs : List Value) (hg : g < w.heap.size) : Chg (fun k => k = g) w (w.setCells g o vs) := by
  induction vs generalizing o w with
  | nil => exact Chg.refl _ _
  | cons v vs ih =>
    have h1 : Chg (fun k => k = g) w (w.setCell ⟨g, o, none⟩ v) := (Chg.refl (fun k => k = g) w).setCell (p := ⟨g, o, none⟩) rfl v
    exact h1.trans (ih (w.setCell ⟨g, o, none⟩ v) (o + 1) (Nat.lt_of_lt_of_le hg h1.size)) (fun _ _ h => h)
end Go.Proofs.Ytapjjhdopelpjaa
