import Derived.Test.YtapjjhdopelpjaaHis5
import Derived.Test.YtapjjhdopelpjaaSLayF
namespace Go.Proofs.Ytapjjhdopelpjaa
set_option linter.unusedVariables false
set_option linter.unusedSimpArgs false
open Go.RowKit Go.Maps Go.Proofs.K Go.Sort Go.Shelf

instance : Inhabited PR := ⟨⟨0, 0⟩⟩
theorem cmp_calls (x y : Int) (w : World) : Calls Try.prog 50 #[.int .i64 x, .int .i64 y] w fun e w' => e = .returned (.int .i64 (Lib.compareInt x y)) ∧ w' = w := AnyG.cmp_Compare_int Try.cmpL x y w
def orF : List Int → Int
  | [] => 0
  | x :: l => if x = 0 then orF l else x
set_option maxHeartbeats 1000000 in
set_option maxRecDepth 100000 in
theorem or_calls (A : Option Addr) (c : Nat) (l : List Int) (w : World) (hr : RowOf encInt 1 w A l) (hl : l.length ≤ 1000000) :
    Calls Try.prog 49 #[.slice A l.length c] w fun e w' => e = .returned (.int .i64 (orF l)) ∧ w' = w := by
  have HR := Sh.mk hr
  have hm : l.length ≤ 9223372036854775807 := by omega
  clear hr
  go_enter Try.func49, Try.ntmps49
  go_wp2_with fail
  go_loopw [8] (fun i wr => ∃ k : Nat, k ≤ l.length ∧ i = .int .i64 k ∧ Sh (wr = w) ∧ Sh (orF l = orF (l.drop k))) (fun i _ => l.length - (intOf i).toNat)
  case atStart => exact ⟨0, Nat.zero_le _, rfl, ⟨rfl⟩, ⟨rfl⟩⟩
  case round =>
    obtain ⟨k, hk, rfl, ⟨rfl⟩, HP⟩ := hrel
    by_cases hlt : k < l.length
    · obtain ⟨x, hx⟩ : ∃ x, x = l[k] := ⟨_, rfl⟩
      obtain ⟨b, off, hAe, hc⟩ := HR.out k hlt
      subst hAe
      rw [← hx] at hc
      have c0 : wr.cell? ⟨b, off + k * 1, none⟩ = some (.int .i64 x) := hc 0 _ rfl
      rw [Nat.mul_one] at c0
      rw [List.drop_eq_getElem_cons hlt, ← hx, orF] at HP
      clear hx hc
      by_cases h1 : x = 0
      · have d1 : (x != 0) = false := by simp [h1]
        rw [if_pos h1] at HP
        clear h1
        go_wp2_with fail
        go_roundw
        case rel => exact ⟨k + 1, by omega, by go_num, ⟨trivial⟩, HP⟩
        case measure => simp [intOf]; omega
      · have d1 : (x != 0) = true := by simp [h1]
        rw [if_neg h1] at HP
        clear h1
        go_wp2_with fail
        go_ret
        exact ⟨by rw [HP.out]; rfl, rfl⟩
    · obtain rfl : k = l.length := by omega
      go_wp2_with fail
      go_ret
      refine ⟨?_, rfl⟩
      rw [HP.out, List.drop_length]
      rfl

/-- A world that has grown: draws, blocks. -/
def Gr (w w' : World) : Prop := ∃ q os, w' = grow (w.drewN q) os
theorem Gr.refl (w : World) : Gr w w := ⟨0, #[], by rw [grow_empty]; rfl⟩
theorem Gr.alloc {w w' : World} (h : Gr w w') (o : Obj) : Gr w (w'.alloc o) := by
  obtain ⟨q, os, rfl⟩ := h
  exact ⟨q, os ++ #[o], by rw [alloc_eq_grow, grow_grow]⟩
theorem Gr.drew {w w' : World} (h : Gr w w') : Gr w w'.drew := by
  obtain ⟨q, os, rfl⟩ := h
  exact ⟨q + 1, os, rfl⟩
theorem Gr.below {w w' : World} (h : Gr w w') : Below w.heap.size w w' := by
  obtain ⟨q, os, rfl⟩ := h
  exact ⟨rfl, rfl, rfl, by simp [grow, World.drewN], fun k hk => heap_grow_old _ _ (by simpa [World.drewN] using hk)⟩

def ordF (x y : PR) : Int := orF [Lib.compareInt x.a y.a, Lib.compareInt x.b y.b]
theorem ord_lt (x y : PR) : ltOf ordF x y = decide (x.a < y.a ∨ (x.a = y.a ∧ x.b < y.b)) := by
  have h0 : ∀ a b : Int, Lib.compareInt a b = if a < b then -1 else if a > b then 1 else 0 := fun _ _ => rfl
  unfold ltOf ordF
  simp only [orF, h0]
  by_cases h1 : x.a < y.a
  · simp [h1]
  · by_cases h2 : y.a < x.a
    · simp [h1, h2]; omega
    · have h3 : x.a = y.a := by omega
      by_cases h4 : x.b < y.b
      · simp [h3, h4]
      · by_cases h5 : y.b < x.b <;> simp [h3, h4, h5]
theorem ord_swo : SWO (ltOf ordF) where
  irrefl x := by rw [ord_lt]; simp
  trans x y z h1 h2 := by rw [ord_lt] at *; simp at *; omega
  ntrans x y z h1 h2 := by rw [ord_lt] at *; simp at *; omega
theorem ord_tot (x y : PR) (h1 : ltOf ordF x y = false) (h2 : ltOf ordF y x = false) : x = y := by
  rw [ord_lt] at *
  simp at *
  obtain ⟨a, b⟩ := x
  obtain ⟨c, d⟩ := y
  simp at *
  omega

/-- What holds in history.order. -/
structure ORL (w W : World) (x y : PR) : Prop where
  bx : Blk W w.heap.size 43 [.int .i64 x.a, .int .i64 x.b]
  bz : Blk W (w.heap.size + 1) 43 [.int .i64 y.a, .int .i64 y.b]
  gr : Gr w W
section
variable {w W : World} {x y : PR}
theorem ORL.x0 (h : ORL w W x y) : W.cell? ⟨w.heap.size, 0, none⟩ = some (.int .i64 x.a) := h.bx.cell 0
theorem ORL.x1 (h : ORL w W x y) : W.cell? ⟨w.heap.size, 1, none⟩ = some (.int .i64 x.b) := h.bx.cell 1
theorem ORL.y0 (h : ORL w W x y) : W.cell? ⟨w.heap.size + 1, 0, none⟩ = some (.int .i64 y.a) := h.bz.cell 0
theorem ORL.y1 (h : ORL w W x y) : W.cell? ⟨w.heap.size + 1, 1, none⟩ = some (.int .i64 y.b) := h.bz.cell 1
theorem ORL.drew (h : ORL w W x y) : ORL w W.drew x y := ⟨h.bx, h.bz, h.gr.drew⟩
theorem ORL.alloc (h : ORL w W x y) (o : Obj) : ORL w (W.alloc o) x y := ⟨h.bx.alloc o, h.bz.alloc o, h.gr.alloc o⟩
end

set_option maxHeartbeats 4000000 in
set_option maxRecDepth 100000 in
theorem order_calls (x y : PR) (w : World) :
    Calls Try.prog 26 #[.agg #[.int .i64 x.a, .int .i64 x.b], .agg #[.int .i64 y.a, .int .i64 y.b]] w fun e w' => e = .returned (.int .i64 (ordF x y)) ∧ Gr w w' := by
  have HA := Sh.mk (fun W => cmp_calls x.a y.a W)
  have HB := Sh.mk (fun W => cmp_calls x.b y.b W)
  unfold ordF
  generalize Lib.compareInt x.a y.a = p at HA
  generalize Lib.compareInt x.b y.b = q at HB
  have HO := Sh.mk (fun W B (h : Blk W B 3 [.int .i64 p, .int .i64 q]) => or_calls (some ⟨B, 0, none⟩) 2 [p, q] W (Blk.rows (enc := encInt) (l := [p, q]) (fun _ => rfl) (by exact h)) (by simp))
  generalize orF [p, q] = r at HO
  go_enter Try.func26, Try.ntmps26
  go_wp2_with fail
  refine wp_gen (fun W => ORL w W x y) ⟨(Blk.new w _ _).alloc _, Blk.new' (by simp), ((Gr.refl w).alloc _).alloc _⟩ ?_
  intro W0 hT
  have HT := Sh.mk hT
  clear hT
  refine wp_region_noPanic ?_
  refine wpN_begin 99 (fun W => ORL w W x y) (by kernel_rfl) ?_
  have hS : (fun W => ORL w W x y) W0.drew := HT.out.drew
  refine wpN_take (i := 0) (v := ?_) rfl rfl (by kernel_rfl) (by kernel_rfl) (by kernel_rfl) (by kernel_rfl) (fun _ _ _ h => h) (Or.inl ⟨by kernel_rfl, ?hy⟩) hS ?_
  case hy =>
    intro W hW
    skip
    go_simp
    try with_reducible rfl
  (try simp only [Act.put]); (try simp only [List.setIfInBounds_toArray]); (try simp only [List.set_cons_succ]); (try simp only [List.set_cons_zero])
  refine wpN_take (i := 1) (v := ?_) rfl rfl (by kernel_rfl) (by kernel_rfl) (by kernel_rfl) (by kernel_rfl) (fun _ _ _ h => h) (Or.inl ⟨by kernel_rfl, ?hy⟩) hS ?_
  case hy =>
    intro W hW
    have y := hW.x0
    go_simp
    try with_reducible rfl
  (try simp only [Act.put]); (try simp only [List.setIfInBounds_toArray]); (try simp only [List.set_cons_succ]); (try simp only [List.set_cons_zero])
  refine wpN_take (i := 2) (v := ?_) rfl rfl (by kernel_rfl) (by kernel_rfl) (by kernel_rfl) (by kernel_rfl) (fun _ _ _ h => h) (Or.inl ⟨by kernel_rfl, ?hy⟩) hS ?_
  case hy =>
    intro W hW
    skip
    go_simp
    try with_reducible rfl
  (try simp only [Act.put]); (try simp only [List.setIfInBounds_toArray]); (try simp only [List.set_cons_succ]); (try simp only [List.set_cons_zero])
  refine wpN_take (i := 3) (v := ?_) rfl rfl (by kernel_rfl) (by kernel_rfl) (by kernel_rfl) (by kernel_rfl) (fun _ _ _ h => h) (Or.inl ⟨by kernel_rfl, ?hy⟩) hS ?_
  case hy =>
    intro W hW
    have y := hW.y0
    go_simp
    try with_reducible rfl
  (try simp only [Act.put]); (try simp only [List.setIfInBounds_toArray]); (try simp only [List.set_cons_succ]); (try simp only [List.set_cons_zero])
  refine wpN_take (i := 5) (v := ?_) rfl rfl (by kernel_rfl) (by kernel_rfl) (by kernel_rfl) (by kernel_rfl) (fun _ _ _ h => h) (Or.inl ⟨by kernel_rfl, ?hy⟩) hS ?_
  case hy =>
    intro W hW
    skip
    go_simp
    try with_reducible rfl
  (try simp only [Act.put]); (try simp only [List.setIfInBounds_toArray]); (try simp only [List.set_cons_succ]); (try simp only [List.set_cons_zero])
  refine wpN_take (i := 6) (v := ?_) rfl rfl (by kernel_rfl) (by kernel_rfl) (by kernel_rfl) (by kernel_rfl) (fun _ _ _ h => h) (Or.inl ⟨by kernel_rfl, ?hy⟩) hS ?_
  case hy =>
    intro W hW
    have y := hW.x1
    go_simp
    try with_reducible rfl
  (try simp only [Act.put]); (try simp only [List.setIfInBounds_toArray]); (try simp only [List.set_cons_succ]); (try simp only [List.set_cons_zero])
  refine wpN_take (i := 7) (v := ?_) rfl rfl (by kernel_rfl) (by kernel_rfl) (by kernel_rfl) (by kernel_rfl) (fun _ _ _ h => h) (Or.inl ⟨by kernel_rfl, ?hy⟩) hS ?_
  case hy =>
    intro W hW
    skip
    go_simp
    try with_reducible rfl
  (try simp only [Act.put]); (try simp only [List.setIfInBounds_toArray]); (try simp only [List.set_cons_succ]); (try simp only [List.set_cons_zero])
  refine wpN_take (i := 8) (v := ?_) rfl rfl (by kernel_rfl) (by kernel_rfl) (by kernel_rfl) (by kernel_rfl) (fun _ _ _ h => h) (Or.inl ⟨by kernel_rfl, ?hy⟩) hS ?_
  case hy =>
    intro W hW
    have y := hW.y1
    go_simp
    try with_reducible rfl
  (try simp only [Act.put]); (try simp only [List.setIfInBounds_toArray]); (try simp only [List.set_cons_succ]); (try simp only [List.set_cons_zero])
  refine wpN_only (i := 4) rfl (by kernel_rfl) (fun K hK => ?_)
  go_simp
  go_at_call 50
  refine (HA.out _).mono ?_
  rintro e w' ⟨rfl, rfl⟩
  refine goto hK hS ?_
  clear hS hK K
  intro hS
  (try simp only [Act.put]); (try simp only [List.setIfInBounds_toArray]); (try simp only [List.set_cons_succ]); (try simp only [List.set_cons_zero])
  refine wpN_only (i := 9) rfl (by kernel_rfl) (fun K hK => ?_)
  go_simp
  go_at_call 50
  refine (HB.out _).mono ?_
  rintro e w' ⟨rfl, rfl⟩
  refine goto hK hS ?_
  clear hS hK K
  intro hS
  (try simp only [Act.put]); (try simp only [List.setIfInBounds_toArray]); (try simp only [List.set_cons_succ]); (try simp only [List.set_cons_zero])
  refine wpN_only (i := 10) rfl (by kernel_rfl) (fun K hK => ?_)
  go_simp
  refine goto hK (hS.alloc _) ?_
  clear hS hK K
  intro hS
  (try simp only [Act.put]); (try simp only [List.setIfInBounds_toArray]); (try simp only [List.set_cons_succ]); (try simp only [List.set_cons_zero])
  refine wpN_only (i := 11) rfl (by kernel_rfl) (fun K hK => ?_)
  go_simp
  go_at_call 49
  refine (HO.out _ _ (by exact Blk.new W0 _ _)).mono ?_
  rintro e w' ⟨rfl, rfl⟩
  refine goto hK hS ?_
  clear hS hK K
  intro hS
  (try simp only [Act.put]); (try simp only [List.setIfInBounds_toArray]); (try simp only [List.set_cons_succ]); (try simp only [List.set_cons_zero])
  refine wpN_only (i := 12) rfl (by kernel_rfl) (fun K hK => ?_)
  go_simp
  refine goto hK hS ?_
  clear hS hK K
  intro hS
  (try simp only [Act.put]); (try simp only [List.setIfInBounds_toArray]); (try simp only [List.set_cons_succ]); (try simp only [List.set_cons_zero])
  refine wpN_done (by kernel_rfl) ?_ _
  refine NoPanic.normal ?_
  have h := hS.gr
  clear hS HA HB HO HT
  go_wp2_with fail
  go_ret
  exact ⟨rfl, h⟩

def sortP (l : List PR) : List PR := l.mergeSort fun x y => !(ltOf ordF) y x
theorem flatK_list (l : List PR) : (flatK encP 2 l.toArray).toList = l.flatMap encP := by
  apply List.ext_getElem?
  intro t
  have hlen : (l.flatMap encP).length = l.length * 2 := by
    rw [List.length_flatMap]
    induction l with
    | nil => rfl
    | cons x r ih => simp [encP] at ih ⊢; omega
  by_cases ht : t < l.length * 2
  · have hk : t / 2 < l.length := by omega
    have e := flat_get (enc := encP) (sz := 2) (fun _ => rfl) l (t / 2) (t % 2) hk (by omega)
    rw [show t / 2 * 2 + t % 2 = t by omega] at e
    rw [e, Array.getElem?_toList, Array.getElem?_eq_getElem (by simpa using ht)]
    have h2 : (flatK encP 2 l.toArray)[t]'(by simpa using ht) = (encP l.toArray[t / 2]!)[t % 2]! := by
      rw [← get_flatK encP 2 l.toArray t (by simpa using ht), getElem!_pos]
    rw [h2]
    have h3 : l.toArray[t / 2]! = l[t / 2] := by simp [hk]
    rw [h3, List.getElem?_eq_getElem (show t % 2 < (encP l[t / 2]).length by simp [encP]; omega), getElem!_pos]
  · rw [List.getElem?_eq_none (by simp; omega), List.getElem?_eq_none (by omega)]

theorem holdsV {w : World} {g : Nat} {cur : Array Value} {e : TypeId} {F : Array Value} (hb : w.heap[g]? = some (.cells cur e (0, 0))) (ht : cur.toList.take F.size = F.toList) : Holds id w g 0 F := by
  intro j hj
  refine ⟨?_, by simp [World.frozen?, hb]⟩
  have h1 : (cur.toList.take F.size)[j]? = F.toList[j]? := by rw [ht]
  rw [List.getElem?_take_of_lt hj] at h1
  simp only [World.cell?, hb, Nat.zero_add]
  simp only [Option.isSome_none, Bool.false_eq_true, if_false]
  rw [← Array.getElem?_toList, h1]
  simp [hj]
theorem heap_sortedV {w : World} {g n : Nat} {os : Array Obj} {cur : Array Value} {e : TypeId} {fr : Nat × Nat} (d : Array Value) (hb : w.heap[g]? = some (.cells cur e fr)) :
    (grow (putRow id (Sort.ahead w n) g 0 d) os).heap[g]? = some (.cells (putCells id 0 d cur) e fr) := by
  have hg : g < w.heap.size := (Array.getElem?_eq_some_iff.1 hb).1
  rw [heap_grow_old _ _ (by simpa using hg)]
  simp [putRow, mapBlock, Sort.ahead, Array.getElem?_modify, hb, onCells]
theorem chg_sortedV {w : World} {g n : Nat} {os : Array Obj} (d : Array Value) : Chg (fun k => k = g) w (grow (putRow id (Sort.ahead w n) g 0 d) os) := by
  refine ⟨rfl, rfl, rfl, by simp, fun k hk hne => ?_⟩
  rw [heap_grow_old _ _ (by simpa using hk)]
  have : g ≠ k := fun e => hne e.symm
  simp [putRow, mapBlock, Sort.ahead, Array.getElem?_modify, this]
theorem take_putCellsV (cur F : Array Value) (h : F.size ≤ cur.size) : (putCells id 0 F cur).toList.take F.size = F.toList := by
  apply List.ext_getElem?
  intro j
  by_cases hj : j < F.size
  · rw [List.getElem?_take_of_lt hj, Array.getElem?_toList]
    simp [putCells, hj, show j < cur.size by omega]
  · rw [List.getElem?_take_eq_none (by omega), List.getElem?_eq_none (by simp; omega)]

theorem sortE_own {base : Nat} {v : Value} {l : List PR} (w : World) (h : Own encP 43 2 w base v l) (hl : l.length ≤ 1000000000) :
    Calls Try.prog 25 #[v, .func (.func 26) #[] #[]] w fun e w' => e = .returned (.tuple #[]) ∧ Own encP 43 2 w' base v (sortP l) ∧ Chg (fun k => some k = v.ownBlock) w w' := by
  have hlen := h.1
  rcases h.2 with ⟨rfl, h0⟩ | ⟨g, cap, cur, rfl, hg, hh, hn, hc, hs, ht⟩
  · obtain rfl := List.eq_nil_of_length_eq_zero h0
    refine Calls.mono (AnyF.slices_SortFunc_none (P := Try.prog) (ρ := Try.sortE_ren) { Try.sortE with } none 0 (.func (.func 26) #[] #[]) w) ?_
    rintro e w' ⟨rfl, rfl⟩
    exact ⟨rfl, by simpa [sortP] using h, Chg.refl _ _⟩
  · have hF := flatK_list l
    have hFs : (flatK encP 2 l.toArray).size = l.length * 2 := by simp
    have eg : ∀ args w, (callFunc 26 args).run Try.prog w = .ok (.enter 26 args) w := Go.Proofs.enters_of Try.func26 (by kernel_rfl) rfl
    have H := AnyQ.slices_SortFunc_total Try.sortE 2 (fun w => Try.isAgg43 w) (fun w => Try.sizeOf43 w) encP (fun _ => rfl) (fun x v hv => by simp [encP] at hv; rcases hv with rfl | rfl <;> rfl) ordF ord_swo 26 #[] g 0 cap l.toArray w eg
      (fun m os dk _ x y => (order_calls x y _).mono fun e w' he => ⟨he.1, he.2⟩)
      (show Holds id w g 0 (flatK encP 2 l.toArray) from holdsV hh (by rw [hFs, hF]; exact ht)) (Array.getElem?_eq_some_iff.1 hh).1 (by simp; omega) ord_tot
    refine Calls.mono H ?_
    rintro e w' ⟨rfl, n, os, hw⟩
    have hw2 : w' = grow (putRow id (Sort.ahead w n) g 0 (flatK encP 2 (sortP l).toArray)) os := hw
    have hsl : (sortP l).length = l.length := List.length_mergeSort _
    have hF2 := flatK_list (sortP l)
    have hFs2 : (flatK encP 2 (sortP l).toArray).size = l.length * 2 := by simp [hsl]
    subst hw2
    refine ⟨rfl, ⟨?_, .inr ⟨g, cap, _, by rw [hsl], hg, heap_sortedV _ hh, by rw [hsl]; exact hn, hc, by simp [putCells, hs], ?_⟩⟩, (chg_sortedV _).mono (fun k _ e => by rw [e]; rfl)⟩
    · rw [← hF2, Array.length_toList, hFs2, hsl]
    · rw [hsl, ← hFs2, take_putCellsV _ _ (by rw [hFs2, hs]; exact Nat.mul_le_mul_right _ hn), hF2]

end Go.Proofs.Ytapjjhdopelpjaa
