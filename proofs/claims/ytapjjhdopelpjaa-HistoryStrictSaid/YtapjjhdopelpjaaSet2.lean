import Derived.Test.YtapjjhdopelpjaaSet
import Derived.Lib.RowBridge
namespace Go.Proofs.Ytapjjhdopelpjaa
set_option linter.unusedVariables false
set_option linter.unusedSimpArgs false
open Go.RowKit Go.Maps Go.Proofs.K

/-! Strictly rising lists. -/
def insF (l : List Int) (x : Int) : List Int := l.take (l.countP (· < x)) ++ x :: l.drop (l.countP (· < x))
theorem count_take {x : Int} : ∀ {l : List Int}, l.Pairwise (· < ·) → l.take (l.countP (· < x)) = l.filter (· < x) ∧ l.drop (l.countP (· < x)) = l.filter (fun y => !decide (y < x))
  | [], _ => by simp
  | y :: l, h => by
    rw [List.pairwise_cons] at h
    by_cases hy : y < x
    · obtain ⟨h1, h2⟩ := count_take h.2
      rw [List.countP_cons_of_pos (by simpa using hy), List.take_succ_cons, List.drop_succ_cons, h1, h2]
      simp [hy]
    · have hall : ∀ z ∈ l, ¬ z < x := fun z hz => by have := h.1 z hz; omega
      have h0 : l.countP (· < x) = 0 := by
        rw [List.countP_eq_zero]
        intro z hz
        simpa using hall z hz
      rw [List.countP_cons_of_neg (by simpa using hy), h0]
      have f1 : l.filter (· < x) = [] := by
        rw [List.filter_eq_nil_iff]
        intro z hz
        simpa using hall z hz
      have f2 : l.filter (fun y => !decide (y < x)) = l := by
        rw [List.filter_eq_self]
        intro z hz
        simpa using hall z hz
      simp [hy, f1]
      rw [← f2]
      simp
theorem insF_eq {l : List Int} (h : l.Pairwise (· < ·)) (x : Int) : insF l x = l.filter (· < x) ++ x :: l.filter (fun y => !decide (y < x)) := by
  unfold insF
  rw [(count_take h).1, (count_take h).2]
theorem insF_up {l : List Int} (h : l.Pairwise (· < ·)) {x : Int} (hx : x ∉ l) : (insF l x).Pairwise (· < ·) := by
  rw [insF_eq h, List.pairwise_append, List.pairwise_cons]
  have hgt : ∀ z ∈ l.filter (fun y => !decide (y < x)), x < z := fun z hz => by
    obtain ⟨h1, h2⟩ := List.mem_filter.1 hz
    have : z ≠ x := fun e => hx (e ▸ h1)
    simp at h2
    omega
  refine ⟨h.sublist List.filter_sublist, ⟨hgt, h.sublist List.filter_sublist⟩, fun y hy z hz => ?_⟩
  have hlt : y < x := by simpa using (List.mem_filter.1 hy).2
  rcases List.mem_cons.1 hz with rfl | hz
  · exact hlt
  · have := hgt z hz
    omega
theorem insF_mem {l : List Int} (h : l.Pairwise (· < ·)) (x y : Int) : y ∈ insF l x ↔ y = x ∨ y ∈ l := by
  rw [insF_eq h, List.mem_append, List.mem_cons, List.mem_filter, List.mem_filter]
  constructor
  · rintro (h1 | h1 | h1)
    · exact .inr h1.1
    · exact .inl h1
    · exact .inr h1.1
  · rintro (h1 | h1)
    · exact .inr (.inl h1)
    · by_cases hy : y < x
      · exact .inl ⟨h1, by simpa using hy⟩
      · exact .inr (.inr ⟨h1, by simpa using hy⟩)
def addS (l : List Int) (x : Int) : List Int := if l.contains x = true then l else insF l x
def dropS (l : List Int) (x : Int) : List Int := if l.contains x = true then l.eraseIdx (l.countP (· < x)) else l
theorem addS_up {l : List Int} (h : l.Pairwise (· < ·)) (x : Int) : (addS l x).Pairwise (· < ·) := by
  unfold addS
  split
  · exact h
  · rename_i hc
    exact insF_up h (by simpa using hc)
theorem addS_mem {l : List Int} (h : l.Pairwise (· < ·)) (x y : Int) : y ∈ addS l x ↔ y = x ∨ y ∈ l := by
  unfold addS
  split
  · rename_i hc
    have : x ∈ l := by simpa using hc
    constructor
    · exact .inr
    · rintro (rfl | h1)
      · exact this
      · exact h1
  · exact insF_mem h x y
theorem addS_len (l : List Int) (x : Int) : (addS l x).length ≤ l.length + 1 ∧ l.length ≤ (addS l x).length := by
  unfold addS insF
  split
  · omega
  · simp
    omega
theorem dropS_sub (l : List Int) (x : Int) : (dropS l x).Sublist l := by
  unfold dropS
  split
  · exact List.eraseIdx_sublist ..
  · exact List.Sublist.refl _
theorem dropS_up {l : List Int} (h : l.Pairwise (· < ·)) (x : Int) : (dropS l x).Pairwise (· < ·) := h.sublist (dropS_sub l x)
theorem erase_count {x : Int} : ∀ {l : List Int}, l.Pairwise (· < ·) → x ∈ l → l.eraseIdx (l.countP (· < x)) = l.filter (· != x)
  | [], _, h => by cases h
  | y :: l, h, hx => by
    rw [List.pairwise_cons] at h
    by_cases hy : y < x
    · have hx' : x ∈ l := by
        rcases List.mem_cons.1 hx with rfl | h'
        · omega
        · exact h'
      have ih := erase_count h.2 hx'
      rw [List.countP_cons_of_pos (by simpa using hy), List.eraseIdx_cons_succ, ih]
      have : (y != x) = true := by simp; omega
      simp [this]
    · have hyx : y = x := by
        rcases List.mem_cons.1 hx with h' | h'
        · exact h'.symm
        · have := h.1 x h'; omega
      subst hyx
      have h0 : l.countP (· < y) = 0 := by
        rw [List.countP_eq_zero]
        intro z hz
        have := h.1 z hz
        simp
        omega
      rw [List.countP_cons_of_neg (by simp), h0, List.eraseIdx_cons_zero]
      have f2 : l.filter (· != y) = l := by
        rw [List.filter_eq_self]
        intro z hz
        have := h.1 z hz
        simp
        omega
      simp [f2]
theorem dropS_mem {l : List Int} (h : l.Pairwise (· < ·)) (x y : Int) : y ∈ dropS l x ↔ y ∈ l ∧ y ≠ x := by
  unfold dropS
  split
  · rename_i hc
    rw [erase_count h (by simpa using hc), List.mem_filter]
    simp
  · rename_i hc
    have : x ∉ l := by simpa using hc
    constructor
    · intro h1
      exact ⟨h1, fun e => this (e ▸ h1)⟩
    · exact fun h1 => h1.1
/-- Strictly rising lists with the same members are one. -/
theorem up_unique : ∀ {l l' : List Int}, l.Pairwise (· < ·) → l'.Pairwise (· < ·) → (∀ x, x ∈ l ↔ x ∈ l') → l = l'
  | [], [], _, _, _ => rfl
  | [], y :: l', _, _, h => absurd ((h y).2 (by simp)) (by simp)
  | x :: l, [], _, _, h => absurd ((h x).1 (by simp)) (by simp)
  | x :: l, y :: l', h1, h2, h => by
    rw [List.pairwise_cons] at h1 h2
    have hxy : x = y := by
      have hx := (h x).1 (by simp)
      have hy := (h y).2 (by simp)
      rcases List.mem_cons.1 hx with e | hx
      · exact e
      · rcases List.mem_cons.1 hy with e | hy
        · exact e.symm
        · have := h2.1 x hx
          have := h1.1 y hy
          omega
    subst hxy
    refine congrArg _ (up_unique h1.2 h2.2 fun z => ?_)
    constructor
    · intro hz
      rcases List.mem_cons.1 ((h z).1 (by simp [hz])) with e | h'
      · have := h1.1 z hz; omega
      · exact h'
    · intro hz
      rcases List.mem_cons.1 ((h z).2 (by simp [hz])) with e | h'
      · have := h2.1 z hz; omega
      · exact h'

theorem flat_ints (l : List Int) : l.flatMap encInt = l.map (Value.int .i64) := by
  induction l with
  | nil => rfl
  | cons x r ih => rw [List.flatMap_cons, ih]; rfl
theorem clone_own {base : Nat} {v : Value} {l : List Int} (w : World) (h : Own encInt 3 1 w base v l) (hl : l.length ≤ 1000000000) :
    Calls Try.prog 52 #[v] w fun e w' => ∃ v', e = .returned v' ∧ Own encInt 3 1 w' w.heap.size v' l ∧ Below w.heap.size w w' := by
  rcases h.2 with ⟨rfl, h0⟩ | ⟨g, cap, cur, hv, _⟩
  · obtain rfl := List.eq_nil_of_length_eq_zero h0
    refine (Any.slices_Clone_int_nil Try.cloneL 0 0 w).mono ?_
    rintro e w' ⟨rfl, rfl⟩
    exact ⟨_, rfl, Own.nil _ _ _ _ _, Below.refl _ _⟩
  · subst hv
    obtain ⟨cur, hh, hs, -, hn, hc, hg, hcell⟩ := own_block h
    refine (Any.slices_Clone_int Try.cloneL g 0 l.length cap l w (Nat.le_refl _) (by omega) (fun j hj => by
      rw [Nat.zero_add, hcell j hj, List.getD_eq_getElem?_getD, List.getElem?_eq_getElem hj]
      rfl)).mono ?_
    rintro e w' ⟨v', rfl, ho, -, hb⟩
    rw [List.take_length] at ho
    exact ⟨v', rfl, by unfold Own; rw [flat_ints]; exact ho, hb⟩
theorem del_own {base : Nat} {v : Value} {l : List Int} (i : Nat) (w : World) (h : Own encInt 3 1 w base v l) (hi : i < l.length) :
    Calls Try.prog 54 #[v, .int .i64 (i : Int), .int .i64 ((i : Int) + 1)] w fun e w' => ∃ v', e = .returned v' ∧ Own encInt 3 1 w' base v' (l.eraseIdx i) ∧ Chg (fun k => some k = v.ownBlock) w w' ∧ ∀ k, v'.ownBlock = some k → v.ownBlock = some k := by
  rcases h.2 with ⟨rfl, h0⟩ | ⟨g, cap, cur, hv, _⟩
  · omega
  · subst hv
    obtain ⟨cur, hh, hs, -, hn, hc, hg, hcell⟩ := own_block h
    have hH : Go.Sort.Holds (Value.int .i64) w g 0 l.toArray := fun j hj => by
      have hj' : j < l.length := by simpa using hj
      refine ⟨?_, row_frozen hh _⟩
      rw [Nat.zero_add, hcell j hj']
      simp [hj']
    have hd := Any.slices_Delete_int Try.delL g 0 cap i (i + 1) l w hH hn (by unfold maxLen at hc; omega) (by omega) (by omega)
    rw [show ((i + 1 : Nat) : Int) = (i : Int) + 1 by omega] at hd
    refine Calls.mono hd ?_
    rintro e w' ⟨rfl, q, rfl⟩
    have hlen : (l.eraseIdx i).length = l.length - (i + 1 - i) := by rw [List.length_eraseIdx_of_lt hi]; omega
    have hys : (l.take i ++ l.drop (i + 1) ++ List.replicate (i + 1 - i) 0).length = l.toArray.size := by simp; omega
    have hpw := Go.Lib.putRow_eq_setCells (Value.int .i64) w g 0 l.toArray (l.take i ++ l.drop (i + 1) ++ List.replicate (i + 1 - i) 0) q hH hys
    rw [hpw]
    have hgw : g < w.heap.size := (Array.getElem?_eq_some_iff.1 hh).1
    obtain ⟨cur1, hh1, hs1⟩ := heap_setCells g 3 (0, 0) ((l.take i ++ l.drop (i + 1) ++ List.replicate (i + 1 - i) 0).map (Value.int .i64)) 0 (w.drewN q) cur hh
    have hc1 := ((Chg.refl (fun k => k = g) w).drewN q).trans (chg_setCells (w.drewN q) g 0 ((l.take i ++ l.drop (i + 1) ++ List.replicate (i + 1 - i) 0).map (Value.int .i64)) hgw) (fun _ _ h => h)
    refine ⟨_, rfl, ?_, hc1.mono (fun k _ e => by simp [Value.ownBlock, e]), fun k hk => hk⟩
    have := own_of_cells (l := l.eraseIdx i) (base := base) (cap := cap) hh1 hg (by rw [hs1, hs]) (by omega) hc (fun j hj => by
      rw [hlen] at hj
      have hin := World.cell?_setCells_in g ((l.take i ++ l.drop (i + 1) ++ List.replicate (i + 1 - i) 0).map (Value.int .i64)) 0 (w.drewN q) (fun k hk => by
        rw [List.length_map, hys] at hk
        have hk' : k < l.length := by simpa using hk
        rw [Nat.zero_add]
        exact row_some (w := w.drewN q) hh _ (by omega)) j (by rw [List.length_map, hys]; simp; omega)
      rw [Nat.zero_add] at hin
      rw [hin, List.getElem_map]
      congr 1
      have e1 : l.eraseIdx i = l.take i ++ l.drop (i + 1) := List.eraseIdx_eq_take_drop_succ ..
      rw [List.getElem_append_left (by simp; omega)]
      simp only [e1])
    rw [hlen] at this
    exact this
end Go.Proofs.Ytapjjhdopelpjaa
