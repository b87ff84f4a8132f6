import Derived.Test.YtapjjhdopelpjaaMap
namespace Go.Proofs.K
set_option linter.unusedVariables false
set_option linter.unusedSimpArgs false
open Go.RowKit Go.Maps

/-- Elements of a type: as its row of the table has them. -/
structure Elem {α : Type} (P : Program) (enc : α → List Value) (t e sz bytes : Nat) : Prop where
  len : ∀ x, (enc x).length = sz
  one : ∀ x, ∀ u ∈ enc x, u.oneCell' = true
  ht : P.underlying t = some (.slice e)
  info : ∃ i z, P.info? e = some i ∧ i.zero = some z ∧ i.size = sz ∧ i.bytes = bytes ∧ z.cells.size = sz
  pos : 0 < sz

section
variable {α : Type} {P : Program} {enc : α → List Value} {t e sz bytes : Nat}
theorem news_of_blk {W : World} {B : Nat} {cs : List Value} (hb : Blk W B e cs) : ∀ j u, cs[j]? = some u → W.cell? ((⟨B, 0, none⟩ : Addr).add j) = some u := fun j u hu => by
  have hadd : (⟨B, 0, none⟩ : Addr).add j = ⟨B, j, none⟩ := by unfold Addr.add; split <;> simp_all
  rw [hadd, hb.cell]
  exact hu
/-- 'append(out, y)': y lies in a block of its own. -/
theorem wpl_push (E : Elem P enc t e sz bytes) {W : World} {ops : Array Oper} {rest : List Oper} {o : Oper} {a : Act} {Q : Exit → Act → World → Prop} (hgd : o.guard = none) (s x : Operand)
    (ho : o.op = .call { callee := .builtin .append, args := #[s, x], argTypes := #[t, t] }) (base : Nat) (v : Value) (l : List α) (y : α) (B : Nat) (hs : a.eval s = v) (hx : a.eval x = .slice (some ⟨B, 0, none⟩) 1 1)
    (hown : Own enc e sz W base v l) (hb : Blk W B e (enc y)) (hbytes : (l.length + 1) * bytes ≤ 140737488355328) (hn : l.length + 1 ≤ maxLen) (hbase : base ≤ W.heap.size)
    (h : ∀ v' w', Own enc e sz w' base v' (l ++ [y]) → Chg (fun k => some k = v.ownBlock) W w' → (∃ g cap, v' = .slice (some ⟨g, 0, none⟩) (l.length + 1) cap ∧ (v.ownBlock = some g ∨ g = W.heap.size) ∧ g < w'.heap.size) → wpList P ops Q rest (a.put o.dst v') w') :
    wpList P ops Q (o :: rest) a W := by
  obtain ⟨i, z, hi, hz, h1, h2, h3⟩ := E.info
  refine wpList_append_lies W hgd s x t ho base e i z sz bytes E.ht hi hz h1 h2 h3 E.pos v l.length (l.flatMap enc) hs hown ⟨B, 0, none⟩ 1 1 (enc y) hx (by rw [E.len, Nat.one_mul]) (news_of_blk hb) (E.one y) (by omega) hn hbytes hbase W.heap.size rfl ?_
  intro g cap w' h4 h5 h6 h7
  exact h _ w' (Own.append (l2 := [y]) (by simpa using h4)) (Chg.of_grown h5) ⟨g, cap, rfl, h6, h7⟩
theorem step_push (E : Elem P enc t e sz bytes) {W : World} {ops : Array Oper} {o : Oper} {a : Act} {K : Act → World → Prop} {Q : Exit → Act → World → Prop} {F : Prop} (hgd : o.guard = none) (s x : Operand)
    (ho : o.op = .call { callee := .builtin .append, args := #[s, x], argTypes := #[t, t] }) (base : Nat) (v : Value) (l : List α) (y : α) (B : Nat) (hs : a.eval s = v) (hx : a.eval x = .slice (some ⟨B, 0, none⟩) 1 1)
    (hown : Own enc e sz W base v l) (hb : Blk W B e (enc y)) (hbytes : (l.length + 1) * bytes ≤ 140737488355328) (hn : l.length + 1 ≤ maxLen) (hbase : base ≤ W.heap.size)
    (h : ∀ v' w', Own enc e sz w' base v' (l ++ [y]) → Chg (fun k => some k = v.ownBlock) W w' → (∃ g cap, v' = .slice (some ⟨g, 0, none⟩) (l.length + 1) cap ∧ (v.ownBlock = some g ∨ g = W.heap.size) ∧ g < w'.heap.size) → K (a.put o.dst v') w') :
    if Region.wanted o (yielded ops a.tmps) = true then Oper.wp P o a W K Q else F := by
  obtain ⟨i, z, hi, hz, h1, h2, h3⟩ := E.info
  refine step_append_lies W hgd s x t ho base e i z sz bytes E.ht hi hz h1 h2 h3 E.pos v l.length (l.flatMap enc) hs hown ⟨B, 0, none⟩ 1 1 (enc y) hx (by rw [E.len, Nat.one_mul]) (news_of_blk hb) (E.one y) (by omega) hn hbytes hbase W.heap.size rfl ?_
  intro g cap w' h4 h5 h6 h7
  exact h _ w' (Own.append (l2 := [y]) (by simpa using h4)) (Chg.of_grown h5) ⟨g, cap, rfl, h6, h7⟩
end
/-- Behind a push: below the base all is as it was. -/
theorem push_below {α : Type} {w W w' : World} {enc : α → List Value} {e sz : Nat} {v : Value} {l : List α} (hb : Below w.heap.size w W) (hown : Own enc e sz W w.heap.size v l) (hc : Chg (fun k => some k = v.ownBlock) W w') : Below w.heap.size w w' :=
  (Chg.trans (F := fun k => w.heap.size ≤ k) (Chg.of_below hb) hc (fun i _ e => (hown.lt i e.symm).1)).below (fun i hi h => by omega)
end Go.Proofs.K
