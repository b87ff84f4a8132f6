import Derived.Test.YtbjpilnlkmajpaaRep2
namespace Go.Proofs.Ytbjpilnlkmajpaa
set_option linter.unusedVariables false
set_option linter.unusedSimpArgs false
open Go.RowKit Go.Maps Go.Proofs.K
set_option maxHeartbeats 400000 in
set_option maxRecDepth 100000 in
theorem ahead_calls (g t : Int) (x : BR) (w : World) :
    Calls Try.prog 33 #[.agg #[.int .i64 g, .int .i64 t], .agg #[.int .i64 x.stream, .int .i64 x.r.kind, .int .i64 x.r.gsn, .int .i64 x.r.txn, .int .i64 x.r.prev, .int .i64 x.r.page, .string x.r.key, .bool x.r.bef.has, .string x.r.bef.s, .bool x.r.aft.has, .string x.r.aft.s, .int .i64 x.r.undo]] w fun e w' => e = .returned (.bool (aheadF g t x)) ∧ Below w.heap.size w w' := by
  rw [← ahead_eq]
  have HC1 := Sh.mk (fun W => compare_calls g x.r.gsn W)
  have HC2 := Sh.mk (fun W => compare_calls t x.stream W)
  generalize cmpI g x.r.gsn = q1 at HC1 ⊢
  generalize cmpI t x.stream = q2 at HC2 ⊢
  have HOR := Sh.mk (fun b w h0 h1 => or2_calls b q1 q2 w h0 h1)
  generalize orI q1 q2 = r at HOR ⊢
  obtain ⟨s, kind, gsn, txn, prev, page, key, bef, aft, undo⟩ := x
  dsimp only at HC1 HC2 ⊢
  go_enter Try.func33, Try.ntmps33
  go_wp2_with fail
  refine wp_gen (fun W => W.cell? ⟨w.heap.size, 0, none⟩ = some (.int .i64 g) ∧ W.cell? ⟨w.heap.size, 1, none⟩ = some (.int .i64 t) ∧ W.cell? ⟨w.heap.size + 1, 0, none⟩ = some (.int .i64 s) ∧ W.cell? ⟨w.heap.size + 1, 2, none⟩ = some (.int .i64 gsn) ∧ Below w.heap.size w W) ⟨by go_simp, by go_simp, by go_simp, by go_simp, bl_alloc (bl_alloc (Below.refl _ _) _) _⟩ ?_
  rintro W ⟨h0, h1, h2, h3, hb⟩
  refine wp_region_noPanic ?_
  refine wpN_begin 14 (fun W => W.cell? ⟨w.heap.size, 0, none⟩ = some (.int .i64 g) ∧ W.cell? ⟨w.heap.size, 1, none⟩ = some (.int .i64 t) ∧ W.cell? ⟨w.heap.size + 1, 0, none⟩ = some (.int .i64 s) ∧ W.cell? ⟨w.heap.size + 1, 2, none⟩ = some (.int .i64 gsn) ∧ Below w.heap.size w W) (by kernel_rfl) ?_
  have hS : (fun W => W.cell? ⟨w.heap.size, 0, none⟩ = some (.int .i64 g) ∧ W.cell? ⟨w.heap.size, 1, none⟩ = some (.int .i64 t) ∧ W.cell? ⟨w.heap.size + 1, 0, none⟩ = some (.int .i64 s) ∧ W.cell? ⟨w.heap.size + 1, 2, none⟩ = some (.int .i64 gsn) ∧ Below w.heap.size w W) W.drew := ⟨h0, h1, h2, h3, bl_drew hb⟩
  refine wpN_take (i := 0) (v := ?_) rfl rfl (by kernel_rfl) (by kernel_rfl) (by kernel_rfl) (by kernel_rfl) (fun _ _ _ h => h) (Or.inl ⟨by rfl, ?hy⟩) hS ?_
  case hy =>
    intro W ⟨h0, h1, h2, h3, hb⟩
    go_simp
    try with_reducible rfl
  (try simp only [Act.put]); (try simp only [List.setIfInBounds_toArray]); (try simp only [List.set_cons_succ]); (try simp only [List.set_cons_zero])
  refine wpN_take (i := 1) (v := ?_) rfl rfl (by kernel_rfl) (by kernel_rfl) (by kernel_rfl) (by kernel_rfl) (fun _ _ _ h => h) (Or.inl ⟨by rfl, ?hy⟩) hS ?_
  case hy =>
    intro W ⟨h0, h1, h2, h3, hb⟩
    go_simp
    try with_reducible rfl
  (try simp only [Act.put]); (try simp only [List.setIfInBounds_toArray]); (try simp only [List.set_cons_succ]); (try simp only [List.set_cons_zero])
  refine wpN_take (i := 2) (v := ?_) rfl rfl (by kernel_rfl) (by kernel_rfl) (by kernel_rfl) (by kernel_rfl) (fun _ _ _ h => h) (Or.inl ⟨by rfl, ?hy⟩) hS ?_
  case hy =>
    intro W ⟨h0, h1, h2, h3, hb⟩
    go_simp
    try with_reducible rfl
  (try simp only [Act.put]); (try simp only [List.setIfInBounds_toArray]); (try simp only [List.set_cons_succ]); (try simp only [List.set_cons_zero])
  refine wpN_take (i := 3) (v := ?_) rfl rfl (by kernel_rfl) (by kernel_rfl) (by kernel_rfl) (by kernel_rfl) (fun _ _ _ h => h) (Or.inl ⟨by rfl, ?hy⟩) hS ?_
  case hy =>
    intro W ⟨h0, h1, h2, h3, hb⟩
    go_simp
    try with_reducible rfl
  (try simp only [Act.put]); (try simp only [List.setIfInBounds_toArray]); (try simp only [List.set_cons_succ]); (try simp only [List.set_cons_zero])
  refine wpN_take (i := 4) (v := ?_) rfl rfl (by kernel_rfl) (by kernel_rfl) (by kernel_rfl) (by kernel_rfl) (fun _ _ _ h => h) (Or.inl ⟨by rfl, ?hy⟩) hS ?_
  case hy =>
    intro W ⟨h0, h1, h2, h3, hb⟩
    go_simp
    try with_reducible rfl
  (try simp only [Act.put]); (try simp only [List.setIfInBounds_toArray]); (try simp only [List.set_cons_succ]); (try simp only [List.set_cons_zero])
  refine wpN_take (i := 6) (v := ?_) rfl rfl (by kernel_rfl) (by kernel_rfl) (by kernel_rfl) (by kernel_rfl) (fun _ _ _ h => h) (Or.inl ⟨by rfl, ?hy⟩) hS ?_
  case hy =>
    intro W ⟨h0, h1, h2, h3, hb⟩
    go_simp
    try with_reducible rfl
  (try simp only [Act.put]); (try simp only [List.setIfInBounds_toArray]); (try simp only [List.set_cons_succ]); (try simp only [List.set_cons_zero])
  refine wpN_take (i := 7) (v := ?_) rfl rfl (by kernel_rfl) (by kernel_rfl) (by kernel_rfl) (by kernel_rfl) (fun _ _ _ h => h) (Or.inl ⟨by rfl, ?hy⟩) hS ?_
  case hy =>
    intro W ⟨h0, h1, h2, h3, hb⟩
    go_simp
    try with_reducible rfl
  (try simp only [Act.put]); (try simp only [List.setIfInBounds_toArray]); (try simp only [List.set_cons_succ]); (try simp only [List.set_cons_zero])
  refine wpN_take (i := 8) (v := ?_) rfl rfl (by kernel_rfl) (by kernel_rfl) (by kernel_rfl) (by kernel_rfl) (fun _ _ _ h => h) (Or.inl ⟨by rfl, ?hy⟩) hS ?_
  case hy =>
    intro W ⟨h0, h1, h2, h3, hb⟩
    go_simp
    try with_reducible rfl
  (try simp only [Act.put]); (try simp only [List.setIfInBounds_toArray]); (try simp only [List.set_cons_succ]); (try simp only [List.set_cons_zero])
  refine wpN_take (i := 9) (v := ?_) rfl rfl (by kernel_rfl) (by kernel_rfl) (by kernel_rfl) (by kernel_rfl) (fun _ _ _ h => h) (Or.inl ⟨by rfl, ?hy⟩) hS ?_
  case hy =>
    intro W ⟨h0, h1, h2, h3, hb⟩
    go_simp
    try with_reducible rfl
  (try simp only [Act.put]); (try simp only [List.setIfInBounds_toArray]); (try simp only [List.set_cons_succ]); (try simp only [List.set_cons_zero])
  generalize W.drew = W1 at hS ⊢
  refine wpN_only (i := 5) rfl (by kernel_rfl) (fun K hK => ?_)
  go_simp
  go_at_call 44
  refine (HC1.out _).mono ?_
  rintro e w' ⟨rfl, rfl⟩
  refine hK.out _ _ (.inr hS) ?_
  clear hK K
  (try simp only [Act.put]); (try simp only [List.setIfInBounds_toArray]); (try simp only [List.set_cons_succ]); (try simp only [List.set_cons_zero])
  refine wpN_only (i := 10) rfl (by kernel_rfl) (fun K hK => ?_)
  go_simp
  go_at_call 44
  refine (HC2.out _).mono ?_
  rintro e w' ⟨rfl, rfl⟩
  refine hK.out _ _ (.inr hS) ?_
  clear hK K
  (try simp only [Act.put]); (try simp only [List.setIfInBounds_toArray]); (try simp only [List.set_cons_succ]); (try simp only [List.set_cons_zero])
  clear HC1 HC2
  refine wpN_only (i := 11) rfl (by kernel_rfl) (fun K hK => ?_)
  go_simp
  refine hK.out _ _ (.inr ?_) ?_
  · exact ⟨below_cell (bl_alloc (Below.refl _ _) _) hS.1, below_cell (bl_alloc (Below.refl _ _) _) hS.2.1, below_cell (bl_alloc (Below.refl _ _) _) hS.2.2.1, below_cell (bl_alloc (Below.refl _ _) _) hS.2.2.2.1, bl_alloc hS.2.2.2.2 _⟩
  clear hK K
  (try simp only [Act.put]); (try simp only [List.setIfInBounds_toArray]); (try simp only [List.set_cons_succ]); (try simp only [List.set_cons_zero])
  refine wpN_only (i := 12) rfl (by kernel_rfl) (fun K hK => ?_)
  go_simp
  go_at_call 43
  refine (HOR.out _ _ ?_ ?_).mono ?_
  · go_simp
  · go_simp
  rintro e w' ⟨rfl, rfl⟩
  refine hK.out _ _ (.inr ?_) ?_
  · exact ⟨below_cell (bl_alloc (Below.refl _ _) _) hS.1, below_cell (bl_alloc (Below.refl _ _) _) hS.2.1, below_cell (bl_alloc (Below.refl _ _) _) hS.2.2.1, below_cell (bl_alloc (Below.refl _ _) _) hS.2.2.2.1, bl_alloc hS.2.2.2.2 _⟩
  clear hK K HOR
  (try simp only [Act.put]); (try simp only [List.setIfInBounds_toArray]); (try simp only [List.set_cons_succ]); (try simp only [List.set_cons_zero])
  refine wpN_only (i := 13) rfl (by kernel_rfl) (fun K hK => ?_)
  go_simp
  refine hK.out _ _ (.inr ?_) ?_
  · exact ⟨below_cell (bl_alloc (Below.refl _ _) _) hS.1, below_cell (bl_alloc (Below.refl _ _) _) hS.2.1, below_cell (bl_alloc (Below.refl _ _) _) hS.2.2.1, below_cell (bl_alloc (Below.refl _ _) _) hS.2.2.2.1, bl_alloc hS.2.2.2.2 _⟩
  clear hK K
  (try simp only [Act.put]); (try simp only [List.setIfInBounds_toArray]); (try simp only [List.set_cons_succ]); (try simp only [List.set_cons_zero])
  refine wpN_only (i := 14) rfl (by kernel_rfl) (fun K hK => ?_)
  go_simp
  refine hK.out _ _ (.inl rfl) ?_
  clear hK K
  refine wpN_done (by kernel_rfl) ?_ _
  refine NoPanic.normal ?_
  have hE := bl_alloc hS.2.2.2.2 (.cells #[Value.int .i64 q1, .int .i64 q2] 3)
  clear hS
  go_wp2_with fail
  go_ret
  exact ⟨rfl, hE⟩
end Go.Proofs.Ytbjpilnlkmajpaa
