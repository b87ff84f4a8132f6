import Derived.Test.YtapjjhdopelpjaaSb
import Derived.Test.YtapjjhdopelpjaaSLay
namespace Go.Proofs.Ytapjjhdopelpjaa
set_option linter.unusedVariables false
set_option linter.unusedSimpArgs false
open Go.RowKit Go.Maps Go.Proofs.K

theorem bs_own {base : Nat} {v : Value} {l : List Int} (x : Int) (w : World) (h : Own encInt 3 1 w base v l) (hu : l.Pairwise (· < ·)) (hl : l.length ≤ 1000000000) :
    Calls Try.prog 46 #[v, .int .i64 x] w fun e w' => e = .returned (.tuple #[.int .i64 ((l.countP (· < x) : Nat) : Int), .bool (l.contains x)]) ∧ ∃ q, w' = w.drewN q := by
  rcases h.2 with ⟨rfl, h0⟩ | ⟨g, cap, cur, hv, _⟩
  · obtain rfl := List.eq_nil_of_length_eq_zero h0
    refine (Any.slices_BinarySearch_int_empty Try.bsL none 0 x w).mono ?_
    rintro e w' ⟨rfl, rfl⟩
    exact ⟨rfl, 0, rfl⟩
  · subst hv
    obtain ⟨cur, hh, hs, -, hn, hc, hg, hcell⟩ := own_block h
    refine (Any.slices_BinarySearch_int Try.bsL g 0 l.length cap l x w (Nat.le_refl _) (by omega) (fun j hj => by
      rw [Nat.zero_add, hcell j hj, List.getD_eq_getElem?_getD, List.getElem?_eq_getElem hj]
      rfl) (by rw [List.take_length]; exact hu.imp fun {a b} hab => Int.le_of_lt hab)).mono ?_
    rintro e w' ⟨rfl, hq⟩
    rw [List.take_length]
    exact ⟨rfl, hq⟩

theorem own_ins {w : World} {base g cap i : Nat} {cur : Array Value} {l : List Int} {x : Int} (h : w.heap[g]? = some (.cells cur 3 (0, 0))) (hg : base ≤ g) (hs : cur.size = cap) (hn : l.length + 1 ≤ cap) (hc : cap ≤ maxLen) (hi : i ≤ l.length)
    (h1 : ∀ j (hj : j < l.length), j < i → w.cell? ⟨g, j, none⟩ = some (.int .i64 l[j])) (h2 : w.cell? ⟨g, i, none⟩ = some (.int .i64 x)) (h3 : ∀ j (hj : j < l.length), i ≤ j → w.cell? ⟨g, j + 1, none⟩ = some (.int .i64 l[j])) :
    Own encInt 3 1 w base (.slice (some ⟨g, 0, none⟩) (l.length + 1) cap) (l.take i ++ x :: l.drop i) := by
  have hlen : (l.take i ++ x :: l.drop i).length = l.length + 1 := by simp; omega
  have := own_of_cells (l := l.take i ++ x :: l.drop i) h hg hs (by omega) hc (fun j hj => by
    rw [hlen] at hj
    by_cases hji : j < i
    · rw [List.getElem_append_left (by rw [List.length_take]; omega), List.getElem_take]
      exact h1 j (by omega) hji
    · rw [List.getElem_append_right (by rw [List.length_take]; omega)]
      have e : (l.take i).length = i := by rw [List.length_take]; omega
      by_cases hje : j = i
      · subst hje
        simp only [e, Nat.sub_self, List.getElem_cons_zero]
        exact h2
      · obtain ⟨j', rfl⟩ : ∃ j', j = j' + 1 := ⟨j - 1, by omega⟩
        have e2 : j' + 1 - (l.take i).length = (j' - i) + 1 := by rw [e]; omega
        simp only [e2, List.getElem_cons_succ, List.getElem_drop]
        have e3 : i + (j' - i) = j' := by omega
        simp only [e3]
        exact h3 j' (by omega) (by omega))
  rw [hlen] at this
  exact this

theorem blk_shape {w : World} {b t : Nat} {cs : List Value} (h : Blk w b t cs) : w.shape? b = some (t, cs.length) := by
  unfold Blk at h
  simp [World.shape?, h]
theorem row_shape {w : World} {g : Nat} {cur : Array Value} {t : TypeId} (h : w.heap[g]? = some (.cells cur t (0, 0))) : w.shape? g = some (t, cur.size) := by
  simp [World.shape?, h]
theorem row_frozen {w : World} {g : Nat} {cur : Array Value} {t : TypeId} (h : w.heap[g]? = some (.cells cur t (0, 0))) (j : Nat) : w.frozen? ⟨g, j, none⟩ = false := by
  simp [World.frozen?, h]
theorem row_some {w : World} {g : Nat} {cur : Array Value} {t : TypeId} (h : w.heap[g]? = some (.cells cur t (0, 0))) (j : Nat) (hj : j < cur.size) : (w.cell? ⟨g, j, none⟩).isSome = true := by
  rw [cell_of h, Array.getElem?_eq_getElem hj]
  rfl
theorem ints_at {l : List Int} {j : Nat} {v : Value} (h : (l.map (Value.int .i64))[j]? = some v) : ∃ hj : j < l.length, v = .int .i64 l[j] := by
  rw [List.getElem?_map] at h
  by_cases hj : j < l.length
  · rw [List.getElem?_eq_getElem hj] at h
    exact ⟨hj, by simpa using h.symm⟩
  · rw [List.getElem?_eq_none (by omega)] at h
    cases h

set_option maxHeartbeats 1000000 in
theorem ins_own {base : Nat} {v : Value} {l : List Int} (i vb : Nat) (x : Int) (w : World) (h : Own encInt 3 1 w base v l) (hb : Blk w vb 3 [.int .i64 x]) (hvb : ∀ k, v.ownBlock = some k → ¬ k = vb) (hi : i ≤ l.length) (hl : l.length + 1 ≤ 1000000000) (hbase : base ≤ w.heap.size) :
    Calls Try.prog 55 #[v, .int .i64 (i : Int), .slice (some ⟨vb, 0, none⟩) 1 1] w fun e w' => ∃ v', e = .returned v' ∧ Own encInt 3 1 w' base v' (l.take i ++ x :: l.drop i) ∧ Chg (fun k => some k = v.ownBlock) w w' ∧ ∀ k, v'.ownBlock = some k → v.ownBlock = some k ∨ w.heap.size ≤ k := by
  have hvs : ∀ j u, [Value.int .i64 x][j]? = some u → w.cell? ⟨vb, 0 + j, none⟩ = some u := fun j u hu => by rw [Nat.zero_add]; exact (hb.cell j).trans hu
  have h1v : ∀ u ∈ [Value.int .i64 x], u.oneCell' = true := by simp [Value.oneCell']
  have hmx : (1000000000 : Nat) ≤ maxLen := by unfold maxLen; omega
  have e3 : Try.insL_ren.t 3 = 3 := rfl
  rcases h.2 with ⟨rfl, h0⟩ | ⟨g, cap, cur, hv, _⟩
  · obtain rfl := List.eq_nil_of_length_eq_zero h0
    obtain rfl : i = 0 := by simpa using hi
    refine (Any2.slices_Insert_int_end_grow Try.insL none 0 0 vb 0 1 1 [] [.int .i64 x] w (by omega) (by omega) (by omega) (by omega) rfl rfl (fun _ => rfl) (fun a ha => by cases ha) hvs h1v).mono ?_
    rw [e3]
    rintro e w' ⟨rfl, rfl⟩
    have hge := grownCap_ge w (0 + 1) 0 3
    have hle := grownCap_le_maxLen w (0 + 1) 0 3 (by omega)
    generalize grownCap w (0 + 1) 0 3 = G at hge hle
    have hz : ∀ n, (Builtin.zeroCells (Value.int .i64 0).cells n).size = n := fun n => by simp [Builtin.zeroCells, Value.cells]
    obtain ⟨C, hC⟩ : ∃ C : Array Value, C = ([] ++ [Value.int .i64 x]).toArray ++ Builtin.zeroCells (Value.int .i64 0).cells (G - (0 + 1)) := ⟨_, rfl⟩
    rw [← hC]
    have hCs : C.size = G := by rw [hC]; simp [hz]; omega
    have hh0 : (w.drew.alloc (.cells C 3)).heap[w.heap.size]? = some (.cells C 3 (0, 0)) := heap_alloc_new w.drew (.cells C 3)
    refine ⟨_, rfl, ?_, (Chg.of_below (F := fun k => some k = Value.ownBlock (.slice none 0 0)) (bl_alloc (bl_drew (Below.refl _ _)) _)), fun k hk => .inr (by
      have : w.heap.size = k := by simpa [Value.ownBlock] using hk
      omega)⟩
    refine own_ins (l := []) (i := 0) hh0 hbase hCs hge hle (Nat.le_refl _) (fun j hj => absurd hj (Nat.not_lt_zero j)) ?_ (fun j hj => absurd hj (Nat.not_lt_zero j))
    rw [cell_of hh0, hC, Array.getElem?_append_left (by simp)]
    simp
  · subst hv
    obtain ⟨cur, hh, hs, -, hn, hc, hg, hcell⟩ := own_block h
    have hgv : ¬ vb = g := fun e => hvb g rfl e.symm
    have hcs : ∀ j u, (l.map (Value.int .i64))[j]? = some u → w.cell? ⟨g, 0 + j, none⟩ = some u := fun j u hu => by
      obtain ⟨hj, rfl⟩ := ints_at hu
      rw [Nat.zero_add]
      exact hcell j hj
    have h1c : ∀ u ∈ l.map (Value.int .i64), u.oneCell' = true := by
      intro u hu
      obtain ⟨z, _, rfl⟩ := List.mem_map.1 hu
      rfl
    have hgw : g < w.heap.size := (Array.getElem?_eq_some_iff.1 hh).1
    by_cases hroom : l.length + 1 ≤ cap
    · by_cases hin : i < l.length
      · refine (Any2.slices_Insert_int_shift Try.insL g 0 l.length cap i vb 0 1 1 (l.map (Value.int .i64)) [.int .i64 x] w hin (by omega) hroom (by unfold maxLen at hc; omega) hgv (by simp) rfl hcs
          (fun j hj => by rw [Nat.zero_add]; exact row_some hh j (by omega)) (fun j hj => by rw [Nat.zero_add]; exact row_frozen hh j) hvs h1c h1v 3 3 1 cap (blk_shape hb) (by rw [row_shape hh, hs]) (by omega) (hb.frozen 0) (hb.frozen 1)).mono ?_
        rintro e w' ⟨rfl, rfl⟩
        have hA : ((l.map (Value.int .i64)).drop i).length = l.length - i := by simp
        obtain ⟨cur1, hh1, hs1⟩ := heap_setCells g 3 (0, 0) ((l.map (Value.int .i64)).drop i) (0 + (i + 1)) w.drew cur hh
        obtain ⟨cur2, hh2, hs2⟩ := heap_setCells g 3 (0, 0) [.int .i64 x] (0 + i) _ cur1 hh1
        have c1 := (Chg.refl (fun k => k = g) w).drew.trans (chg_setCells w.drew g (0 + (i + 1)) ((l.map (Value.int .i64)).drop i) hgw) (fun _ _ h => h)
        have c2 := c1.trans (chg_setCells _ g (0 + i) [.int .i64 x] (Nat.lt_of_lt_of_le hgw c1.size)) (fun _ _ h => h)
        refine ⟨_, rfl, ?_, c2.mono (fun k _ e => by simp [Value.ownBlock, e]), fun k hk => .inl hk⟩
        have hout : ∀ j, ¬ j = i → ((w.drew.setCells g (0 + (i + 1)) ((l.map (Value.int .i64)).drop i)).setCells g (0 + i) [.int .i64 x]).cell? ⟨g, j, none⟩ = (w.drew.setCells g (0 + (i + 1)) ((l.map (Value.int .i64)).drop i)).cell? ⟨g, j, none⟩ := fun j hj =>
          World.cell?_setCells_out g _ _ _ _ (fun _ _ => by show j < 0 + i ∨ 0 + i + 1 ≤ j; omega)
        refine own_ins hh2 hg (by rw [hs2, hs1, hs]) (by omega) hc hi (fun j hj hji => ?_) ?_ (fun j hj hij => ?_)
        · rw [hout j (by omega), World.cell?_setCells_out g _ _ _ _ (fun _ _ => by show j < 0 + (i + 1) ∨ _; omega)]
          exact hcell j hj
        · have := World.cell?_setCells_in g [.int .i64 x] (0 + i) (w.drew.setCells g (0 + (i + 1)) ((l.map (Value.int .i64)).drop i)) (fun j hj => by
            have hj0 : j = 0 := by simpa using hj
            subst hj0
            exact row_some hh1 _ (by omega)) 0 (by simp)
          simpa using this
        · rw [hout (j + 1) (by omega)]
          have := World.cell?_setCells_in g ((l.map (Value.int .i64)).drop i) (0 + (i + 1)) w.drew (fun k hk => by
            rw [hA] at hk
            exact row_some (w := w.drew) hh _ (by omega)) (j - i) (by rw [hA]; omega)
          rw [show 0 + (i + 1) + (j - i) = j + 1 by omega] at this
          rw [this, List.getElem_drop, List.getElem_map]
          simp only [show i + (j - i) = j by omega]
      · obtain rfl : i = l.length := by omega
        refine (Any2.slices_Insert_int_end_room Try.insL g 0 l.length cap vb 0 1 1 [.int .i64 x] w (by omega) hroom (by unfold maxLen at hc; omega) rfl (fun j hj => by rw [Nat.zero_add]; exact row_some hh _ (by omega)) (fun j hj => by rw [Nat.zero_add]; exact row_frozen hh _) hvs h1v).mono ?_
        rintro e w' ⟨rfl, rfl⟩
        obtain ⟨cur1, hh1, hs1⟩ := heap_setCells g 3 (0, 0) [.int .i64 x] (0 + l.length) w cur hh
        refine ⟨_, rfl, ?_, (chg_setCells w g (0 + l.length) [.int .i64 x] hgw).mono (fun k _ e => by simp [Value.ownBlock, e]), fun k hk => .inl hk⟩
        refine own_ins hh1 hg (by rw [hs1, hs]) (by omega) hc hi (fun j hj hji => ?_) ?_ (fun j hj hij => by omega)
        · rw [World.cell?_setCells_out g _ _ _ _ (fun _ _ => by show j < 0 + l.length ∨ _; omega)]
          exact hcell j hj
        · have := World.cell?_setCells_in g [.int .i64 x] (0 + l.length) w (fun j hj => by
            have hj0 : j = 0 := by simpa using hj
            subst hj0
            exact row_some hh _ (by omega)) 0 (by simp)
          simpa using this
    · have hge := grownCap_ge w (l.length + 1) cap 3
      have hle := grownCap_le_maxLen w (l.length + 1) cap 3 (by omega)
      by_cases hin : i < l.length
      · refine (Any2.slices_Insert_int_grow Try.insL g 0 l.length cap i vb 0 1 1 (l.map (Value.int .i64)) [.int .i64 x] w hin (by omega) hn (by omega) (by omega) (by simp) rfl hcs hvs h1c h1v).mono ?_
        rw [e3]
        rintro e w' ⟨rfl, rfl⟩
        generalize hG : grownCap w (l.length + 1) cap 3 = G at hge hle
        have hz : ∀ n, (Builtin.zeroCells (Value.int .i64 0).cells n).size = n := fun n => by simp [Builtin.zeroCells, Value.cells]
        obtain ⟨C, hC⟩ : ∃ C : Array Value, C = ((l.map (Value.int .i64)).take i).toArray ++ Builtin.zeroCells (Value.int .i64 0).cells (l.length + 1 - i) ++ Builtin.zeroCells (Value.int .i64 0).cells (G - (l.length + 1)) := ⟨_, rfl⟩
        rw [← hC]
        have hCs : C.size = G := by rw [hC]; simp [hz]; omega
        have hC1 : ∀ j (hj : j < l.length), j < i → C[j]? = some (.int .i64 l[j]) := fun j hj hji => by
          rw [hC, Array.append_assoc, Array.getElem?_append_left (by simp; omega)]
          simp [hji, hj]
        have hh0 : (w.alloc (.cells C 3)).drew.heap[w.heap.size]? = some (.cells C 3 (0, 0)) := heap_alloc_new w (.cells C 3)
        obtain ⟨cur1, hh1, hs1⟩ := heap_setCells w.heap.size 3 (0, 0) [.int .i64 x] i _ C hh0
        obtain ⟨cur2, hh2, hs2⟩ := heap_setCells w.heap.size 3 (0, 0) ((l.map (Value.int .i64)).drop i) (i + 1) (((w.alloc (.cells C 3)).drew.setCells w.heap.size i [.int .i64 x]).drew) cur1 hh1
        have hA : ((l.map (Value.int .i64)).drop i).length = l.length - i := by simp
        have hb0 : Below w.heap.size w (w.alloc (.cells C 3)).drew := bl_drew (bl_alloc (Below.refl _ _) _)
        have hsz : (w.alloc (.cells C 3)).drew.heap.size = w.heap.size + 1 := by simp
        have c1 := (Chg.of_below (F := fun k => k = w.heap.size) hb0).trans (chg_setCells _ w.heap.size i [.int .i64 x] (by omega)) (fun _ _ h => h)
        have c2 := c1.drew.trans (chg_setCells _ w.heap.size (i + 1) ((l.map (Value.int .i64)).drop i) (Nat.lt_of_lt_of_le (by omega : w.heap.size < (w.alloc (.cells C 3)).drew.heap.size) (chg_setCells _ w.heap.size i [.int .i64 x] (by omega)).size)) (fun _ _ h => h)
        refine ⟨_, rfl, ?_, c2.mono (fun k hk e => by omega), fun k hk => .inr (by
          have : w.heap.size = k := by simpa [Value.ownBlock] using hk
          omega)⟩
        have hout : ∀ j, j < i + 1 → ((((w.alloc (.cells C 3)).drew.setCells w.heap.size i [.int .i64 x]).drew).setCells w.heap.size (i + 1) ((l.map (Value.int .i64)).drop i)).cell? ⟨w.heap.size, j, none⟩ = ((w.alloc (.cells C 3)).drew.setCells w.heap.size i [.int .i64 x]).cell? ⟨w.heap.size, j, none⟩ := fun j hj =>
          World.cell?_setCells_out w.heap.size _ _ _ _ (fun _ _ => by show j < i + 1 ∨ _; omega)
        refine own_ins hh2 hbase (by rw [hs2, hs1, hCs]) hge hle hi (fun j hj hji => ?_) ?_ (fun j hj hij => ?_)
        · rw [hout j (by omega), World.cell?_setCells_out w.heap.size _ _ _ _ (fun _ _ => by show j < i ∨ _; omega), cell_of hh0]
          exact hC1 j hj hji
        · rw [hout i (by omega)]
          have := World.cell?_setCells_in w.heap.size [.int .i64 x] i (w.alloc (.cells C 3)).drew (fun j hj => by
            have hj0 : j = 0 := by simpa using hj
            subst hj0
            exact row_some hh0 _ (by omega)) 0 (by simp)
          simpa using this
        · have := World.cell?_setCells_in w.heap.size ((l.map (Value.int .i64)).drop i) (i + 1) (((w.alloc (.cells C 3)).drew.setCells w.heap.size i [.int .i64 x]).drew) (fun k hk => by
            rw [hA] at hk
            exact row_some hh1 _ (by omega)) (j - i) (by rw [hA]; omega)
          rw [show i + 1 + (j - i) = j + 1 by omega] at this
          rw [this, List.getElem_drop, List.getElem_map]
          simp only [show i + (j - i) = j by omega]
      · obtain rfl : i = l.length := by omega
        refine (Any2.slices_Insert_int_end_grow Try.insL (some ⟨g, 0, none⟩) l.length cap vb 0 1 1 (l.map (Value.int .i64)) [.int .i64 x] w (by omega) hn (by omega) (by omega) (by simp) rfl (fun h => by cases h) (fun a ha j u hu => by
          injection ha with ha
          subst ha
          rw [show (⟨g, 0, none⟩ : Addr).add j = ⟨g, 0 + j, none⟩ by unfold Addr.add; split <;> simp_all]
          exact hcs j u hu) hvs h1v).mono ?_
        rw [e3]
        rintro e w' ⟨rfl, rfl⟩
        generalize hG : grownCap w (l.length + 1) cap 3 = G at hge hle
        have hz : ∀ n, (Builtin.zeroCells (Value.int .i64 0).cells n).size = n := fun n => by simp [Builtin.zeroCells, Value.cells]
        obtain ⟨C, hC⟩ : ∃ C : Array Value, C = (l.map (Value.int .i64) ++ [Value.int .i64 x]).toArray ++ Builtin.zeroCells (Value.int .i64 0).cells (G - (l.length + 1)) := ⟨_, rfl⟩
        rw [← hC]
        have hCs : C.size = G := by rw [hC]; simp [hz]; omega
        have hC1 : ∀ j, j < l.length + 1 → C[j]? = (l.map (Value.int .i64) ++ [Value.int .i64 x])[j]? := fun j hj => by
          rw [hC, Array.getElem?_append_left (by simp; omega)]
          simp
        have hh0 : (w.drew.alloc (.cells C 3)).heap[w.heap.size]? = some (.cells C 3 (0, 0)) := heap_alloc_new w.drew (.cells C 3)
        refine ⟨_, rfl, ?_, (Chg.of_below (F := fun k => some k = Value.ownBlock (.slice (some ⟨g, 0, none⟩) l.length cap)) (bl_alloc (bl_drew (Below.refl _ _)) _)), fun k hk => .inr (by
          have : w.heap.size = k := by simpa [Value.ownBlock] using hk
          omega)⟩
        refine own_ins hh0 hbase hCs hge hle hi (fun j hj hji => ?_) ?_ (fun j hj hij => by omega)
        · rw [cell_of hh0, hC1 j (by omega), List.getElem?_append_left (by simpa using hj)]
          simp [hj]
        · rw [cell_of hh0, hC1 _ (by omega), List.getElem?_append_right (by simp)]
          simp
end Go.Proofs.Ytapjjhdopelpjaa
