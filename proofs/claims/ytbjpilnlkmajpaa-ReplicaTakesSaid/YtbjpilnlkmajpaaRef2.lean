import Derived.Test.YtbjpilnlkmajpaaRef1
namespace Go.Proofs.Ytbjpilnlkmajpaa
set_option linter.unusedVariables false
set_option linter.unusedSimpArgs false
open Go.RowKit Go.Maps Go.Proofs.K

def greatB (l : List BR) : Bool := greatF ((l.take 70).map (·.r))
theorem take_r {l : List BR} {k : Nat} (hk : k < l.length) {x : BR} (hx : x = l[k]) : (l.take (k + 1)).map (·.r) = (l.take k).map (·.r) ++ [x.r] := by
  rw [List.take_succ_eq_append_getElem hk, List.map_append, hx]
  rfl
theorem take_b {l : List BR} {k : Nat} (hk : k < l.length) {x : BR} (hx : x = l[k]) : l.take (k + 1) = l.take k ++ [x] := by
  rw [List.take_succ_eq_append_getElem hk, hx]

set_option maxHeartbeats 2000000 in
set_option maxRecDepth 100000 in
theorem great18_calls (A : Option Addr) (c : Nat) (l : List BR) (w : World) (hr : RowOf encBR 12 w A l) (hl : l.length ≤ 9223372036854775807) :
    Calls Try.prog 5 #[.slice A l.length c] w fun e w' => e = .returned (.bool (greatB l)) ∧ Below w.heap.size w w' := by
  have HR := Sh.mk hr
  generalize hG : greatB l = R
  have HG := Sh.mk hG
  have i0 : (Try.prog.info? 31).map (fun i => (i.zero, i.size, i.bytes)) = some (some (.agg #[.int .i64 0, .int .i64 0, .int .i64 0, .int .i64 0, .int .i64 0, .string ⟨#[]⟩, .bool false, .string ⟨#[]⟩, .bool false, .string ⟨#[]⟩, .int .i64 0]), 11, 112) := by kernel_rfl
  obtain ⟨i0, hi0, hz0, hz1, hz2⟩ := info_parts i0
  clear hG hr
  go_enter Try.func5, Try.ntmps5
  go_wp2_with fail
  go_loopw [3, 4] (fun v i wr => ∃ k : Nat, k ≤ l.length ∧ k ≤ 70 ∧ i = .int .i64 k ∧ Sh (Own encRec 31 11 wr w.heap.size v ((l.take k).map (·.r))) ∧ Below w.heap.size w wr) (fun _ i _ => l.length - (intOf i).toNat)
  case atStart => exact ⟨0, Nat.zero_le _, by omega, rfl, ⟨Own.nil _ _ _ _ _⟩, Below.refl _ _⟩
  case round =>
    obtain ⟨k, hk, hk70, rfl, HO, hbw⟩ := hrel
    have hlk : ((l.take k).map (·.r)).length = k := by simp; omega
    by_cases hlt : k < l.length
    · by_cases h70 : k < 70
      · have hd1 : decide ((k : Int) < 70) = true := by simp; omega
        obtain ⟨x, hx⟩ : ∃ x, x = l[k] := ⟨_, rfl⟩
        obtain ⟨b, off, rfl, hc⟩ := HR.out k hlt
        rw [← hx] at hc
        have hc0 : wr.cell? ⟨b, off + k * 12, none⟩ = some (.int .i64 x.stream) := below_cell hbw (hc 0 _ rfl)
        have hc1 : wr.cell? ⟨b, off + k * 12 + 1, none⟩ = some (.int .i64 x.r.kind) := below_cell hbw (hc 1 _ rfl)
        have hc2 : wr.cell? ⟨b, off + k * 12 + 2, none⟩ = some (.int .i64 x.r.gsn) := below_cell hbw (hc 2 _ rfl)
        have hc3 : wr.cell? ⟨b, off + k * 12 + 3, none⟩ = some (.int .i64 x.r.txn) := below_cell hbw (hc 3 _ rfl)
        have hc4 : wr.cell? ⟨b, off + k * 12 + 4, none⟩ = some (.int .i64 x.r.prev) := below_cell hbw (hc 4 _ rfl)
        have hc5 : wr.cell? ⟨b, off + k * 12 + 5, none⟩ = some (.int .i64 x.r.page) := below_cell hbw (hc 5 _ rfl)
        have hc6 : wr.cell? ⟨b, off + k * 12 + 6, none⟩ = some (.string x.r.key) := below_cell hbw (hc 6 _ rfl)
        have hc7 : wr.cell? ⟨b, off + k * 12 + 7, none⟩ = some (.bool x.r.bef.has) := below_cell hbw (hc 7 _ rfl)
        have hc8 : wr.cell? ⟨b, off + k * 12 + 8, none⟩ = some (.string x.r.bef.s) := below_cell hbw (hc 8 _ rfl)
        have hc9 : wr.cell? ⟨b, off + k * 12 + 9, none⟩ = some (.bool x.r.aft.has) := below_cell hbw (hc 9 _ rfl)
        have hc10 : wr.cell? ⟨b, off + k * 12 + 10, none⟩ = some (.string x.r.aft.s) := below_cell hbw (hc 10 _ rfl)
        have hc11 : wr.cell? ⟨b, off + k * 12 + 11, none⟩ = some (.int .i64 x.r.undo) := below_cell hbw (hc 11 _ rfl)
        have HNX := Sh.mk (take_r hlt hx)
        clear hx hc
        have ho := HO.out
        unfold Own at ho
        rw [hlk] at ho
        go_wp2_with (at_builtin; refine Sh.out ?_)
        refine ⟨?_⟩
        refine wpList_append_lies _ rfl _ _ _ (by rfl) w.heap.size 31 i0 _ 11 112 Try.underlying35 hi0 hz0 hz1 hz2 rfl (by omega) _ k _ (by rfl) (World.ownsRow.alloc ho _) ⟨wr.heap.size, 0, none⟩ 1 1 [.int .i64 x.r.kind, .int .i64 x.r.gsn, .int .i64 x.r.txn, .int .i64 x.r.prev, .int .i64 x.r.page, .string x.r.key, .bool x.r.bef.has, .string x.r.bef.s, .bool x.r.aft.has, .string x.r.aft.s, .int .i64 x.r.undo] (by rfl) (by rfl) (World.news_of_block (cs := #[.int .i64 x.r.kind, .int .i64 x.r.gsn, .int .i64 x.r.txn, .int .i64 x.r.prev, .int .i64 x.r.page, .string x.r.key, .bool x.r.bef.has, .string x.r.bef.s, .bool x.r.aft.has, .string x.r.aft.s, .int .i64 x.r.undo]) (t := 31) (fr := (0, 0)) (heap_alloc_new wr _)) (by simp [Value.oneCell']) (by omega) (by unfold maxLen; omega) (by omega) (by have := hbw.size; simp; omega) (wr.heap.size + 1) (by simp) ?_
        intro gg cap w2 hown1 hgrow hat hlt1
        have hout : Own encRec 31 11 w2 w.heap.size (.slice (some ⟨gg, 0, none⟩) (k + 1) cap) ((l.take (k + 1)).map (·.r)) := by
          rw [HNX.out]
          refine Own.append ?_
          rw [hlk]
          exact hown1
        have hown0 := HO.out
        have hc9 := Chg.trans (F := fun i => w.heap.size ≤ i) (Chg.of_below (F := fun i => w.heap.size ≤ i) hbw) (((Chg.refl (fun _ => False) wr).alloc (.cells #[.int .i64 x.r.kind, .int .i64 x.r.gsn, .int .i64 x.r.txn, .int .i64 x.r.prev, .int .i64 x.r.page, .string x.r.key, .bool x.r.bef.has, .string x.r.bef.s, .bool x.r.aft.has, .string x.r.aft.s, .int .i64 x.r.undo] 31)).mono (G := fun i => w.heap.size ≤ i) (fun _ _ h => h.elim)) (fun _ _ h => h)
        have hc8 := (hc9.trans (Chg.of_grown hgrow) (fun i _ e => (hown0.lt i e.symm).1)).below (fun i hi h => by omega)
        clear hown1 hgrow hat hlt1 hown0 hc9 ho
        go_wp2_with fail
        go_roundw
        case rel => exact ⟨k + 1, by omega, by omega, by go_num, ⟨hout⟩, hc8⟩
        case measure => simp [intOf]; omega
      · have hd1 : decide ((k : Int) < 70) = false := by simp; omega
        obtain rfl : k = 70 := by omega
        obtain ⟨A', c', hv, hc1, hc2, hrow⟩ := HO.out.reads (fun _ => rfl)
        subst hv
        have H := great17_calls A' c' _ wr hrow (by rw [hlk]; omega)
        rw [hlk] at H
        have hgb : greatF ((l.take 70).map (·.r)) = R := HG.out
        rw [hgb] at H
        clear hrow HO
        simp only [hlk] at *
        go_wp2_with (go_at_call 18; refine H.mono ?_; rintro e w' ⟨rfl, rfl⟩)
        go_ret
        exact ⟨rfl, hbw⟩
    · obtain rfl : k = l.length := by omega
      obtain ⟨A', c', hv, hc1, hc2, hrow⟩ := HO.out.reads (fun _ => rfl)
      subst hv
      have H := great17_calls A' c' _ wr hrow (by rw [hlk]; omega)
      rw [hlk] at H
      have hgb : greatF ((l.take l.length).map (·.r)) = R := by rw [← HG.out]; unfold greatB; rw [List.take_length, List.take_of_length_le hk70]
      rw [hgb] at H
      clear hrow HO
      simp only [hlk] at *
      go_wp2_with (go_at_call 18; refine H.mono ?_; rintro e w' ⟨rfl, rfl⟩)
      go_ret
      exact ⟨rfl, hbw⟩

set_option maxHeartbeats 2000000 in
set_option maxRecDepth 100000 in
theorem Of_calls (A : Option Addr) (c : Nat) (l : List BR) (w : World) (hr : RowOf encBR 12 w A l) (hl : l.length ≤ 1000000000) :
    Calls Try.prog 11 #[.slice A l.length c] w fun e w' => ∃ v, e = .returned v ∧ Own encBR 69 12 w' w.heap.size v l ∧ Below w.heap.size w w' := by
  have HR := Sh.mk hr
  have hlen : l.length ≤ 9223372036854775807 := by omega
  have i0 : (Try.prog.info? 69).map (fun i => (i.zero, i.size, i.bytes)) = some (some (.agg #[.int .i64 0, .int .i64 0, .int .i64 0, .int .i64 0, .int .i64 0, .int .i64 0, .string ⟨#[]⟩, .bool false, .string ⟨#[]⟩, .bool false, .string ⟨#[]⟩, .int .i64 0]), 12, 120) := by kernel_rfl
  obtain ⟨i0, hi0, hz0, hz1, hz2⟩ := info_parts i0
  clear hr
  go_enter Try.func11, Try.ntmps11
  go_wp2_with fail
  go_loopw [3, 4] (fun v i wr => ∃ k : Nat, k ≤ l.length ∧ i = .int .i64 k ∧ Sh (Own encBR 69 12 wr w.heap.size v (l.take k)) ∧ Below w.heap.size w wr) (fun _ i _ => l.length - (intOf i).toNat)
  case atStart => exact ⟨0, Nat.zero_le _, rfl, ⟨Own.nil _ _ _ _ _⟩, Below.refl _ _⟩
  case round =>
    obtain ⟨k, hk, rfl, HO, hbw⟩ := hrel
    have hlk : (l.take k).length = k := by simp; omega
    by_cases hlt : k < l.length
    · obtain ⟨x, hx⟩ : ∃ x, x = l[k] := ⟨_, rfl⟩
      obtain ⟨b, off, rfl, hc⟩ := HR.out k hlt
      rw [← hx] at hc
      have HC := Sh.mk hc
      have HNX := Sh.mk (take_b hlt hx)
      clear hx hc
      have ho := HO.out
      unfold Own at ho
      rw [hlk] at ho
      have HO1 := Sh.mk ho
      have HBW := Sh.mk hbw
      clear ho hbw
      go_wp2_with fail
      refine wp_region_noPanic ?_
      refine wpN_begin 14 (fun W => Below w.heap.size w W) (by kernel_rfl) ?_
      have hS : (fun W => Below w.heap.size w W) wr.drew := bl_drew HBW.out
      refine wpN_take (i := 0) (v := ?_) rfl rfl (by kernel_rfl) (by kernel_rfl) (by kernel_rfl) (by kernel_rfl) (fun _ _ _ h => h) (Or.inl ⟨by kernel_rfl, ?hy⟩) hS ?_
      case hy =>
        intro W hW
        skip
        go_simp
        try with_reducible rfl
      (try simp only [Act.put]); (try simp only [List.setIfInBounds_toArray]); (try simp only [List.set_cons_succ]); (try simp only [List.set_cons_zero])
      refine wpN_take (i := 1) (v := ?_) rfl rfl (by kernel_rfl) (by kernel_rfl) (by kernel_rfl) (by kernel_rfl) (fun _ _ _ h => h) (Or.inl ⟨by kernel_rfl, ?hy⟩) hS ?_
      case hy =>
        intro W hW
        skip
        go_simp
        try with_reducible rfl
      (try simp only [Act.put]); (try simp only [List.setIfInBounds_toArray]); (try simp only [List.set_cons_succ]); (try simp only [List.set_cons_zero])
      refine wpN_take (i := 2) (v := ?_) rfl rfl (by kernel_rfl) (by kernel_rfl) (by kernel_rfl) (by kernel_rfl) (fun _ _ _ h => h) (Or.inl ⟨by kernel_rfl, ?hy⟩) hS ?_
      case hy =>
        intro W hW
        skip
        go_simp
        try with_reducible rfl
      (try simp only [Act.put]); (try simp only [List.setIfInBounds_toArray]); (try simp only [List.set_cons_succ]); (try simp only [List.set_cons_zero])
      refine wpN_take (i := 3) (v := ?_) rfl rfl (by kernel_rfl) (by kernel_rfl) (by kernel_rfl) (by kernel_rfl) (fun _ _ _ h => h) (Or.inl ⟨by kernel_rfl, ?hy⟩) hS ?_
      case hy =>
        intro W hW
        skip
        go_simp
        try with_reducible rfl
      (try simp only [Act.put]); (try simp only [List.setIfInBounds_toArray]); (try simp only [List.set_cons_succ]); (try simp only [List.set_cons_zero])
      refine wpN_take (i := 4) (v := ?_) rfl rfl (by kernel_rfl) (by kernel_rfl) (by kernel_rfl) (by kernel_rfl) (fun _ _ _ h => h) (Or.inl ⟨by kernel_rfl, ?hy⟩) hS ?_
      case hy =>
        intro W hW
        skip
        go_simp
        try with_reducible rfl
      (try simp only [Act.put]); (try simp only [List.setIfInBounds_toArray]); (try simp only [List.set_cons_succ]); (try simp only [List.set_cons_zero])
      refine wpN_take (i := 5) (v := ?_) rfl rfl (by kernel_rfl) (by kernel_rfl) (by kernel_rfl) (by kernel_rfl) (fun _ _ _ h => h) (Or.inl ⟨by kernel_rfl, ?hy⟩) hS ?_
      case hy =>
        intro W hW
        have y0 : W.cell? ⟨b, off + k * 12, none⟩ = some (.int .i64 x.stream) := below_cell hW (HC.out 0 _ rfl)
        go_simp
        try with_reducible rfl
      (try simp only [Act.put]); (try simp only [List.setIfInBounds_toArray]); (try simp only [List.set_cons_succ]); (try simp only [List.set_cons_zero])
      refine wpN_take (i := 6) (v := ?_) rfl rfl (by kernel_rfl) (by kernel_rfl) (by kernel_rfl) (by kernel_rfl) (fun _ _ _ h => h) (Or.inl ⟨by kernel_rfl, ?hy⟩) hS ?_
      case hy =>
        intro W hW
        skip
        go_simp
        try with_reducible rfl
      (try simp only [Act.put]); (try simp only [List.setIfInBounds_toArray]); (try simp only [List.set_cons_succ]); (try simp only [List.set_cons_zero])
      refine wpN_take (i := 7) (v := ?_) rfl rfl (by kernel_rfl) (by kernel_rfl) (by kernel_rfl) (by kernel_rfl) (fun _ _ _ h => h) (Or.inl ⟨by kernel_rfl, ?hy⟩) hS ?_
      case hy =>
        intro W hW
        skip
        go_simp
        try with_reducible rfl
      (try simp only [Act.put]); (try simp only [List.setIfInBounds_toArray]); (try simp only [List.set_cons_succ]); (try simp only [List.set_cons_zero])
      refine wpN_take (i := 8) (v := ?_) rfl rfl (by kernel_rfl) (by kernel_rfl) (by kernel_rfl) (by kernel_rfl) (fun _ _ _ h => h) (Or.inl ⟨by kernel_rfl, ?hy⟩) hS ?_
      case hy =>
        intro W hW
        skip
        go_simp
        try with_reducible rfl
      (try simp only [Act.put]); (try simp only [List.setIfInBounds_toArray]); (try simp only [List.set_cons_succ]); (try simp only [List.set_cons_zero])
      refine wpN_take (i := 9) (v := ?_) rfl rfl (by kernel_rfl) (by kernel_rfl) (by kernel_rfl) (by kernel_rfl) (fun _ _ _ h => h) (Or.inl ⟨by kernel_rfl, ?hy⟩) hS ?_
      case hy =>
        intro W hW
        skip
        go_simp
        try with_reducible rfl
      (try simp only [Act.put]); (try simp only [List.setIfInBounds_toArray]); (try simp only [List.set_cons_succ]); (try simp only [List.set_cons_zero])
      refine wpN_take (i := 10) (v := ?_) rfl rfl (by kernel_rfl) (by kernel_rfl) (by kernel_rfl) (by kernel_rfl) (fun _ _ _ h => h) (Or.inl ⟨by kernel_rfl, ?hy⟩) hS ?_
      case hy =>
        intro W hW
        have y1 : W.cell? ⟨b, off + k * 12 + 1, none⟩ = some (.int .i64 x.r.kind) := below_cell hW (HC.out 1 _ rfl); have y2 : W.cell? ⟨b, off + k * 12 + 2, none⟩ = some (.int .i64 x.r.gsn) := below_cell hW (HC.out 2 _ rfl); have y3 : W.cell? ⟨b, off + k * 12 + 3, none⟩ = some (.int .i64 x.r.txn) := below_cell hW (HC.out 3 _ rfl); have y4 : W.cell? ⟨b, off + k * 12 + 4, none⟩ = some (.int .i64 x.r.prev) := below_cell hW (HC.out 4 _ rfl); have y5 : W.cell? ⟨b, off + k * 12 + 5, none⟩ = some (.int .i64 x.r.page) := below_cell hW (HC.out 5 _ rfl); have y6 : W.cell? ⟨b, off + k * 12 + 6, none⟩ = some (.string x.r.key) := below_cell hW (HC.out 6 _ rfl); have y7 : W.cell? ⟨b, off + k * 12 + 7, none⟩ = some (.bool x.r.bef.has) := below_cell hW (HC.out 7 _ rfl); have y8 : W.cell? ⟨b, off + k * 12 + 8, none⟩ = some (.string x.r.bef.s) := below_cell hW (HC.out 8 _ rfl); have y9 : W.cell? ⟨b, off + k * 12 + 9, none⟩ = some (.bool x.r.aft.has) := below_cell hW (HC.out 9 _ rfl); have y10 : W.cell? ⟨b, off + k * 12 + 10, none⟩ = some (.string x.r.aft.s) := below_cell hW (HC.out 10 _ rfl); have y11 : W.cell? ⟨b, off + k * 12 + 11, none⟩ = some (.int .i64 x.r.undo) := below_cell hW (HC.out 11 _ rfl)
        go_simp
        try with_reducible rfl
      (try simp only [Act.put]); (try simp only [List.setIfInBounds_toArray]); (try simp only [List.set_cons_succ]); (try simp only [List.set_cons_zero])
      refine wpN_take (i := 11) (v := ?_) rfl rfl (by kernel_rfl) (by kernel_rfl) (by kernel_rfl) (by kernel_rfl) (fun _ _ _ h => h) (Or.inl ⟨by kernel_rfl, ?hy⟩) hS ?_
      case hy =>
        intro W hW
        skip
        go_simp
        try with_reducible rfl
      (try simp only [Act.put]); (try simp only [List.setIfInBounds_toArray]); (try simp only [List.set_cons_succ]); (try simp only [List.set_cons_zero])
      refine wpN_only (i := 12) rfl (by kernel_rfl) (fun K hK => ?_)
      go_simp
      refine goto hK (bl_alloc hS _) ?_
      clear hS hK K
      intro hS
      (try simp only [Act.put]); (try simp only [List.setIfInBounds_toArray]); (try simp only [List.set_cons_succ]); (try simp only [List.set_cons_zero])
      refine wpN_only (i := 13) rfl (by kernel_rfl) (fun K hK => ?_)
      refine step_append_lies _ (by rfl) _ _ _ (by rfl) w.heap.size 69 i0 _ 12 120 Try.underlying47 hi0 hz0 hz1 hz2 rfl (by omega) _ k _ (by rfl) (World.ownsRow.drew (World.ownsRow.alloc HO1.out _)) ⟨wr.heap.size, 0, none⟩ 1 1 [.int .i64 x.stream, .int .i64 x.r.kind, .int .i64 x.r.gsn, .int .i64 x.r.txn, .int .i64 x.r.prev, .int .i64 x.r.page, .string x.r.key, .bool x.r.bef.has, .string x.r.bef.s, .bool x.r.aft.has, .string x.r.aft.s, .int .i64 x.r.undo] (by rfl) (by rfl) (World.news_of_block (cs := #[.int .i64 x.stream, .int .i64 x.r.kind, .int .i64 x.r.gsn, .int .i64 x.r.txn, .int .i64 x.r.prev, .int .i64 x.r.page, .string x.r.key, .bool x.r.bef.has, .string x.r.bef.s, .bool x.r.aft.has, .string x.r.aft.s, .int .i64 x.r.undo]) (t := 69) (fr := (0, 0)) (heap_alloc_new wr _)) (by simp [Value.oneCell']) (by omega) (by unfold maxLen; omega) (by omega) hS.size (wr.heap.size + 1) (by simp) ?_
      intro gg cap w2 hown1 hgrow hat hlt1
      have hown0 := HO.out
      have hout : Own encBR 69 12 w2 w.heap.size (.slice (some ⟨gg, 0, none⟩) (k + 1) cap) (l.take (k + 1)) := by
        rw [HNX.out]
        refine Own.append ?_
        rw [hlk]
        exact hown1
      have hc8 := ((Chg.of_below (F := fun i => w.heap.size ≤ i) hS).trans (Chg.of_grown hgrow) (fun i _ e => (hown0.lt i e.symm).1)).below (fun i hi h => by omega)
      refine hK.out _ _ (.inr hc8) ?_
      clear hK K hown1 hgrow hat hlt1 hown0 hS
      (try simp only [Act.put]); (try simp only [List.setIfInBounds_toArray]); (try simp only [List.set_cons_succ]); (try simp only [List.set_cons_zero])
      refine wpN_only (i := 14) rfl (by kernel_rfl) (fun K hK => ?_)
      go_simp
      refine hK.out _ _ (.inl rfl) ?_
      clear hK K
      refine wpN_done (by kernel_rfl) ?_ _
      refine NoPanic.normal ?_
      go_wp2_with fail
      go_roundw
      case rel => exact ⟨k + 1, by omega, by go_num, ⟨hout⟩, hc8⟩
      case measure => simp [intOf]; omega
    · obtain rfl : k = l.length := by omega
      have hO := HO.out
      rw [List.take_length] at hO
      clear HO
      go_wp2_with fail
      go_ret
      exact ⟨_, rfl, hO, hbw⟩
end Go.Proofs.Ytbjpilnlkmajpaa
