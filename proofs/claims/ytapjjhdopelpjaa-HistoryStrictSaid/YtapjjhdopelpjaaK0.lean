import Derived.Test.YtapjjhdopelpjaaProg
import Derived.WalkKit
import Derived.WalkSpells
import Derived.WalkLawsBesides
import Derived.Lib.Hide
import Derived.Deep.QuietTactic
import Derived.BigQuiet
import Derived.Deep.RegionWith
import Derived.Deep.RegionHeld3
import Derived.StillTailTactics
import Derived.Maps.OwnSet
import Derived.Maps.StringElems
import Derived.Carry
namespace Go.Proofs.K
set_option linter.unusedVariables false
set_option linter.unusedSimpArgs false
open Go.RowKit Go.Maps

/-- The world under a name of its own. -/
theorem wp_gen {P : Program} {c : Code} {Q : Exit → Act → World → Prop} {a : Act} {w : World} (I : World → Prop) (hw : I w) (h : ∀ w1, I w1 → c.wp P Q a w1) : c.wp P Q a w := h w hw

theorem calls_gen {P : Program} {f : FuncId} {args : Array Value} {R : Ending → World → Prop} {w : World} (I : World → Prop) (hw : I w) (h : ∀ w1, I w1 → Calls P f args w1 R) : Calls P f args w R := h w hw

/-- Blocks outside F are as they were. -/
structure Chg (F : Nat → Prop) (w w' : World) : Prop where
  os : w'.os = w.os
  tape : w'.tape = w.tape
  output : w'.output = w.output
  size : w.heap.size ≤ w'.heap.size
  block : ∀ k, k < w.heap.size → ¬ F k → w'.heap[k]? = w.heap[k]?

namespace Chg
variable {F G : Nat → Prop} {w w1 w2 : World}
theorem refl (F : Nat → Prop) (w : World) : Chg F w w := ⟨rfl, rfl, rfl, Nat.le_refl _, fun _ _ _ => rfl⟩
theorem trans (h : Chg F w w1) (k : Chg G w1 w2) (hG : ∀ k, k < w.heap.size → G k → F k) : Chg F w w2 :=
  ⟨k.os.trans h.os, k.tape.trans h.tape, k.output.trans h.output, Nat.le_trans h.size k.size, fun i hi hf => (k.block i (Nat.lt_of_lt_of_le hi h.size) (fun hg => hf (hG i hi hg))).trans (h.block i hi hf)⟩
theorem mono (h : Chg F w w1) (hF : ∀ k, k < w.heap.size → F k → G k) : Chg G w w1 := ⟨h.os, h.tape, h.output, h.size, fun k hk hg => h.block k hk (fun hf => hg (hF k hk hf))⟩
theorem of_below (h : Below w.heap.size w w1) : Chg F w w1 := ⟨h.os, h.tape, h.output, h.size, fun k hk _ => h.block k hk⟩
theorem below (h : Chg F w w1) (hF : ∀ k, k < w.heap.size → ¬ F k) : Below w.heap.size w w1 := ⟨h.os, h.tape, h.output, h.size, fun k hk => h.block k hk (hF k hk)⟩
theorem of_grown {row : Option Nat} (h : w.grownBy w1 row) : Chg (fun k => some k = row) w w1 := ⟨h.os, h.tape, h.output, h.size, fun k hk hn => h.block k hk hn⟩
theorem drew (h : Chg F w w1) : Chg F w w1.drew := ⟨h.os, h.tape, h.output, h.size, h.block⟩
theorem drewN (h : Chg F w w1) (n : Nat) : Chg F w (w1.drewN n) := ⟨h.os, h.tape, h.output, h.size, h.block⟩
theorem alloc (h : Chg F w w1) (o : Obj) : Chg F w (w1.alloc o) :=
  h.trans (of_below (F := F) ((Below.refl _ _).alloc (Nat.le_refl _) o)) (fun _ _ hf => hf)
theorem setCell (h : Chg F w w1) {p : Addr} (hp : F p.block) (u : Value) : Chg F w (w1.setCell p u) :=
  h.trans (G := fun k => k = p.block) ⟨rfl, rfl, rfl, by simp [World.setCell], fun k _ hk => Below.heap_setCell _ _ _ _ hk⟩ (fun k _ hk => hk ▸ hp)
theorem cell (h : Chg F w w1) {a : Addr} (ha : a.block < w.heap.size) (hf : ¬ F a.block) : w1.cell? a = w.cell? a := World.cell?_of_block (w := w) (h.block a.block ha hf)
theorem frozen (h : Chg F w w1) {a : Addr} (ha : a.block < w.heap.size) (hf : ¬ F a.block) : w1.frozen? a = w.frozen? a := World.frozen?_of_block (w := w) (h.block a.block ha hf)
end Chg

/-- A whole block of cells. -/
def Blk (w : World) (b t : Nat) (cs : List Value) : Prop := w.heap[b]? = some (.cells cs.toArray t (0, 0))
namespace Blk
variable {w w1 : World} {b t : Nat} {cs : List Value}
theorem lt (h : Blk w b t cs) : b < w.heap.size := (Array.getElem?_eq_some_iff.1 h).1
theorem cell (h : Blk w b t cs) (i : Nat) : w.cell? ⟨b, i, none⟩ = cs[i]? := by
  unfold Blk at h
  simp [World.cell?, h]
theorem frozen (h : Blk w b t cs) (i : Nat) : w.frozen? ⟨b, i, none⟩ = false := by
  unfold Blk at h
  simp [World.frozen?, h]
theorem move (h : Blk w b t cs) (e : w1.heap[b]? = w.heap[b]?) : Blk w1 b t cs := e.trans h
theorem chg {F : Nat → Prop} (h : Blk w b t cs) (k : Chg F w w1) (hf : ¬ F b) : Blk w1 b t cs := h.move (k.block b h.lt hf)
theorem alloc (h : Blk w b t cs) (o : Obj) : Blk (w.alloc o) b t cs := h.move (Below.heap_alloc _ _ _ h.lt)
theorem drew (h : Blk w b t cs) : Blk w.drew b t cs := h
theorem new (w : World) (t : Nat) (cs : List Value) : Blk (w.alloc (.cells cs.toArray t)) w.heap.size t cs := by
  show (w.heap.push _)[w.heap.size]? = _
  simp
theorem new' {W : World} {t : Nat} {cs : List Value} {b : Nat} (h : W.heap.size = b) : Blk (W.alloc (.cells cs.toArray t)) b t cs := h ▸ new W t cs
theorem set (h : Blk w b t cs) (i : Nat) (v : Value) : Blk (w.setCell ⟨b, i, none⟩ v) b t (cs.set i v) := by
  unfold Blk at *
  simp [World.setCell, Array.getElem?_modify, h]
theorem set_other (h : Blk w b t cs) {p : Addr} (hp : b ≠ p.block) (v : Value) : Blk (w.setCell p v) b t cs := h.move (Below.heap_setCell _ _ _ _ hp)
end Blk
end Go.Proofs.K
namespace Go.Proofs.K
open Go.RowKit Go.Maps

/-- A fact that the walk does not look into. -/
structure Sh (p : Prop) : Prop where mk :: (out : p)

theorem cell_lt {w : World} {a : Addr} {v : Value} (h : w.cell? a = some v) : a.block < w.heap.size := World.block_lt_of_cell? w a h
theorem below_cell {w w1 : World} (h : Below w.heap.size w w1) {a : Addr} {v : Value} (hc : w.cell? a = some v) : w1.cell? a = some v := (h.cell (cell_lt hc)).trans hc
theorem Chg.cell_of {F : Nat → Prop} {w w1 : World} (h : Chg F w w1) {a : Addr} {v : Value} (hc : w.cell? a = some v) (hf : ¬ F a.block) : w1.cell? a = some v := (h.cell (cell_lt hc) hf).trans hc
theorem below_then {B : Nat} {w w1 w2 : World} (h : Below B w w1) (hB : B ≤ w1.heap.size) (k : Below w1.heap.size w1 w2) : Below B w w2 :=
  h.trans ⟨k.os, k.tape, k.output, k.size, fun i hi => k.block i (Nat.lt_of_lt_of_le hi hB)⟩
theorem below_trans {w w1 w2 : World} (h : Below w.heap.size w w1) (k : Below w1.heap.size w1 w2) : Below w.heap.size w w2 := below_then h h.size k

theorem bl_alloc {w W : World} (h : Below w.heap.size w W) (o : Obj) : Below w.heap.size w (W.alloc o) := h.alloc h.size o
theorem bl_drew {B : Nat} {w W : World} (h : Below B w W) : Below B w W.drew := h.drew
theorem bl_drewN {B : Nat} {w W : World} (h : Below B w W) (n : Nat) : Below B w (W.drewN n) := ⟨h.os, h.tape, h.output, h.size, h.block⟩

/-- Elements that are read. -/
def RowOf {α : Type} (enc : α → List Value) (sz : Nat) (w : World) (A : Option Addr) (l : List α) : Prop :=
  ∀ k (hk : k < l.length), ∃ b off, A = some ⟨b, off, none⟩ ∧ ∀ j v, (enc l[k])[j]? = some v → w.cell? ⟨b, off + k * sz + j, none⟩ = some v
section
variable {α : Type} {enc : α → List Value} {sz : Nat} {w w1 : World} {A : Option Addr} {l : List α}
theorem RowOf.nil (w : World) (A : Option Addr) : RowOf enc sz w A ([] : List α) := fun k hk => absurd hk (Nat.not_lt_zero k)
theorem RowOf.imp (h : RowOf enc sz w A l) (hm : ∀ a v, w.cell? a = some v → w1.cell? a = some v) : RowOf enc sz w1 A l := fun k hk => by
  obtain ⟨b, off, e, hc⟩ := h k hk
  exact ⟨b, off, e, fun j v hv => hm _ _ (hc j v hv)⟩
theorem RowOf.below (h : RowOf enc sz w A l) (hb : Below w.heap.size w w1) : RowOf enc sz w1 A l := h.imp fun _ _ hc => below_cell hb hc
theorem RowOf.take (h : RowOf enc sz w A l) (n : Nat) : RowOf enc sz w A (l.take n) := fun k hk => by
  have hk' : k < l.length := by rw [List.length_take] at hk; omega
  obtain ⟨b, off, e, hc⟩ := h k hk'
  refine ⟨b, off, e, fun j v hv => hc j v ?_⟩
  rw [List.getElem_take] at hv
  exact hv
theorem RowOf.drop {b off : Nat} (h : RowOf enc sz w (some ⟨b, off, none⟩) l) (n : Nat) : RowOf enc sz w (some ⟨b, off + n * sz, none⟩) (l.drop n) := fun k hk => by
  have hk' : n + k < l.length := by rw [List.length_drop] at hk; omega
  obtain ⟨b', off', e, hc⟩ := h (n + k) hk'
  cases e
  refine ⟨b, _, rfl, fun j v hv => ?_⟩
  have := hc j v (by rw [List.getElem_drop] at hv; exact hv)
  rw [Nat.add_mul, ← Nat.add_assoc] at this
  exact this
theorem RowOf.one {b off : Nat} {x : α} (h : ∀ j v, (enc x)[j]? = some v → w.cell? ⟨b, off + j, none⟩ = some v) : RowOf enc sz w (some ⟨b, off, none⟩) [x] := fun k hk => by
  obtain rfl : k = 0 := by simpa using hk
  exact ⟨b, off, rfl, fun j v hv => by simpa using h j v hv⟩
end

/-- Elements of the call's own: base: no block below it. -/
def Own {α : Type} (enc : α → List Value) (e sz : Nat) (w : World) (base : Nat) (v : Value) (l : List α) : Prop := w.ownsRow base e sz v l.length (l.flatMap enc)
section
variable {α : Type} {enc : α → List Value} {e sz : Nat} {w w1 : World} {base : Nat} {v : Value} {l : List α}
theorem Own.nil (enc : α → List Value) (e sz : Nat) (w : World) (base : Nat) : Own enc e sz w base (.slice none 0 0) ([] : List α) := World.ownsRow_nil _ _ _ _
theorem flat_get (hs : ∀ x, (enc x).length = sz) : ∀ (l : List α) (k j : Nat) (hk : k < l.length), j < sz → (l.flatMap enc)[k * sz + j]? = (enc l[k])[j]?
  | [], k, j, hk, _ => absurd hk (Nat.not_lt_zero k)
  | x :: r, 0, j, _, hj => by
    simp only [List.flatMap_cons, Nat.zero_mul, Nat.zero_add, List.getElem_cons_zero]
    rw [List.getElem?_append_left (by rw [hs]; exact hj)]
  | x :: r, k + 1, j, hk, hj => by
    have hk' : k < r.length := by simpa using hk
    simp only [List.flatMap_cons, List.getElem_cons_succ]
    rw [List.getElem?_append_right (by rw [hs, Nat.add_mul]; omega), hs, ← flat_get hs r k j hk' hj]
    congr 1
    rw [Nat.add_mul]
    omega
theorem Own.reads (h : Own enc e sz w base v l) (hs : ∀ x, (enc x).length = sz) : ∃ A c, v = .slice A l.length c ∧ l.length ≤ c ∧ c ≤ maxLen ∧ RowOf enc sz w A l := by
  rcases h.2 with ⟨rfl, h0⟩ | ⟨g, cap, cur, rfl, hg, hh, hn, hc, hsz, ht⟩
  · have : l = [] := List.eq_nil_of_length_eq_zero h0
    subst this
    exact ⟨none, 0, rfl, Nat.le_refl _, Nat.zero_le _, RowOf.nil _ _⟩
  · refine ⟨_, cap, rfl, hn, hc, fun k hk => ⟨g, 0, rfl, fun j u hu => ?_⟩⟩
    have hj : j < sz := by
      have := (List.getElem?_eq_some_iff.1 hu).1
      rwa [hs] at this
    have hlt : k * sz + j < l.length * sz := Nat.lt_of_lt_of_le (by rw [Nat.add_mul, Nat.one_mul]; omega : k * sz + j < (k + 1) * sz) (Nat.mul_le_mul_right _ hk)
    rw [Nat.zero_add, h.cellAt (k * sz + j) hlt, flat_get hs l k j hk hj]
    exact hu
theorem Own.lt (h : Own enc e sz w base v l) (k : Nat) (hk : v.ownBlock = some k) : base ≤ k ∧ k < w.heap.size := World.ownsRow.lt h k hk
theorem Own.move (h : Own enc e sz w base v l) (hm : ∀ k, v.ownBlock = some k → w1.heap[k]? = w.heap[k]?) : Own enc e sz w1 base v l := by
  obtain ⟨h1, h2⟩ := h
  refine ⟨h1, ?_⟩
  rcases h2 with h2 | ⟨g, cap, cur, rfl, hg, hh, r⟩
  · exact .inl h2
  · exact .inr ⟨g, cap, cur, rfl, hg, (hm g (by simp [Value.ownBlock])).trans hh, r⟩
theorem Own.below (h : Own enc e sz w base v l) (hb : Below w.heap.size w w1) : Own enc e sz w1 base v l := h.move fun k hk => hb.block k (h.lt k hk).2
theorem Own.chg {F : Nat → Prop} (h : Own enc e sz w base v l) (hb : Chg F w w1) (hf : ∀ k, v.ownBlock = some k → ¬ F k) : Own enc e sz w1 base v l := h.move fun k hk => hb.block k (h.lt k hk).2 (hf k hk)
theorem Own.alloc (h : Own enc e sz w base v l) (o : Obj) : Own enc e sz (w.alloc o) base v l := h.move fun k hk => Below.heap_alloc _ _ _ (h.lt k hk).2
theorem Own.lower {base' : Nat} (h : Own enc e sz w base v l) (hb : base' ≤ base) : Own enc e sz w base' v l := by
  obtain ⟨h1, h2⟩ := h
  refine ⟨h1, ?_⟩
  rcases h2 with h2 | ⟨g, cap, cur, rfl, hg, r⟩
  · exact .inl h2
  · exact .inr ⟨g, cap, cur, rfl, Nat.le_trans hb hg, r⟩
theorem Own.append {l2 : List α} {v' : Value} (h : w.ownsRow base e sz v' (l.length + l2.length) (l.flatMap enc ++ l2.flatMap enc)) : Own enc e sz w base v' (l ++ l2) := by
  unfold Own
  rw [List.length_append, List.flatMap_append]
  exact h
end
theorem own_chg {F : Nat → Prop} {H : Type} {P : Program} {k : TypeId} {R : Value → Option (DataW H × List MemPlace)} {w w1 : World} {b n : Nat} {D : DataW H} (h : w.ownsMap P k R b n D) (c : Chg F w w1) (hf : ¬ F b) : w1.ownsMap P k R b n D := by
  obtain ⟨es, clock, hb, r⟩ := h
  exact ⟨es, clock, (c.block b (Array.getElem?_eq_some_iff.1 hb).1 hf).trans hb, r⟩
end Go.Proofs.K
