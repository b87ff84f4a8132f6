import Derived.Test.YtbjpilnlkmajpaaRep3
namespace Go.Proofs.Ytbjpilnlkmajpaa
set_option linter.unusedVariables false
set_option linter.unusedSimpArgs false
open Go.RowKit Go.Maps Go.Proofs.K

def mayF (g t : Int) (o : Bool) (x : BR) : Int :=
  if (!rightF x.r || !aheadF g t x) = true then 1 else if (x.r.kind != 1 && !o) = true then 7 else if (x.r.kind == 1 && o) = true then 8 else 0

set_option maxHeartbeats 2000000 in
set_option maxRecDepth 100000 in
theorem may_calls (p bn bo B : Nat) (g t : Int) (O : Int → Option Value) (x : BR) (w : World) (hwx : (Lit.int .i64 x.r.txn).wf = true)
    (hb : Blk w p 63 [.int .i64 g, .int .i64 t, .map (some bn), .map (some bo)]) (hown : MapIV Try.prog 3 w bo B O) :
    Calls Try.prog 23 #[.pointer (some ⟨p, 0, none⟩), .agg (encBR x).toArray] w fun e w' => e = .returned (.int .i64 (mayF g t (O x.r.txn).isSome x)) ∧ Below w.heap.size w w' := by
  have hpl := hb.lt
  have n1 : ¬ p = w.heap.size := by omega
  have n2 : ¬ w.heap.size = p := by omega
  have HRT := Sh.mk (fun A c W (h : RowOf encRec 11 W A [x.r]) => Right_calls A c [x.r] W h (by simp))
  have HAH := Sh.mk (fun W => ahead_calls g t x W)
  unfold mayF
  generalize ho : (O x.r.txn).isSome = o
  have hol : ∀ W, MapIV Try.prog 3 W bo B O → (Instr.lookup 61 (.map (some bo)) (.int .i64 x.r.txn) true).run Try.prog W = .ok (.tuple #[(O x.r.txn).getD (.slice none 0 0), .bool o]) W := fun W h => ho ▸ (h.look Try.underlying3 Try.underlying61 (zeroRecs W) x.r.txn hwx).1
  generalize (O x.r.txn).getD (.slice none 0 0) = ov at hol
  clear ho hwx
  rw [show [x.r].all rightF = rightF x.r from by simp] at HRT
  generalize hrt : rightF x.r = rt at HRT ⊢
  generalize hah : aheadF g t x = ah at HAH ⊢
  have HHH := Sh.mk (And.intro hrt hah)
  clear hrt hah
  obtain ⟨s, kind, gsn, txn, prev, page, key, bef, aft, undo⟩ := x
  dsimp only at hol HAH ⊢
  have HL := Sh.mk hol
  clear hol
  show Calls _ _ #[_, .agg #[.int .i64 s, .int .i64 kind, .int .i64 gsn, .int .i64 txn, .int .i64 prev, .int .i64 page, .string key, .bool bef.has, .string bef.s, .bool aft.has, .string aft.s, .int .i64 undo]] _ _
  generalize hR : (if (!rt || !ah) = true then (1 : Int) else if (kind != 1 && !o) = true then 7 else if (kind == 1 && o) = true then 8 else 0) = R
  have HR := Sh.mk hR
  clear hR
  go_enter Try.func23, Try.ntmps23
  go_wp2_with fail
  refine wp_gen (fun W => (Blk W p 63 [.int .i64 g, .int .i64 t, .map (some bn), .map (some bo)] ∧ Blk W w.heap.size 69 [.int .i64 s, .int .i64 kind, .int .i64 gsn, .int .i64 txn, .int .i64 prev, .int .i64 page, .string key, .bool bef.has, .string bef.s, .bool aft.has, .string aft.s, .int .i64 undo]) ∧ MapIV Try.prog 3 W bo B O ∧ Below w.heap.size w W) ⟨⟨hb.alloc _, Blk.new' (by simp)⟩, hown.below (bl_alloc (Below.refl _ _) _), bl_alloc (Below.refl _ _) _⟩ ?_
  rintro W ⟨⟨hbp, hbx⟩, hm, hbl⟩
  have HB := Sh.mk (show (Blk W p 63 [.int .i64 g, .int .i64 t, .map (some bn), .map (some bo)] ∧ Blk W w.heap.size 69 [.int .i64 s, .int .i64 kind, .int .i64 gsn, .int .i64 txn, .int .i64 prev, .int .i64 page, .string key, .bool bef.has, .string bef.s, .bool aft.has, .string aft.s, .int .i64 undo]) ∧ MapIV Try.prog 3 W bo B O ∧ Below w.heap.size w W from ⟨⟨hbp, hbx⟩, hm, hbl⟩)
  clear hb hown hbp hbx hm hbl
  refine wp_region_noPanic ?_
  refine wpN_begin 12 (fun W => (Blk W p 63 [.int .i64 g, .int .i64 t, .map (some bn), .map (some bo)] ∧ Blk W w.heap.size 69 [.int .i64 s, .int .i64 kind, .int .i64 gsn, .int .i64 txn, .int .i64 prev, .int .i64 page, .string key, .bool bef.has, .string bef.s, .bool aft.has, .string aft.s, .int .i64 undo]) ∧ MapIV Try.prog 3 W bo B O ∧ Below w.heap.size w W) (by kernel_rfl) ?_
  have hS : (fun W => (Blk W p 63 [.int .i64 g, .int .i64 t, .map (some bn), .map (some bo)] ∧ Blk W w.heap.size 69 [.int .i64 s, .int .i64 kind, .int .i64 gsn, .int .i64 txn, .int .i64 prev, .int .i64 page, .string key, .bool bef.has, .string bef.s, .bool aft.has, .string aft.s, .int .i64 undo]) ∧ MapIV Try.prog 3 W bo B O ∧ Below w.heap.size w W) W.drew := ⟨⟨HB.out.1.1.drew, HB.out.1.2.drew⟩, HB.out.2.1.below (bl_drew (Below.refl _ _)), bl_drew HB.out.2.2⟩
  refine wpN_take (i := 0) (v := ?_) rfl rfl (by kernel_rfl) (by kernel_rfl) (by kernel_rfl) (by kernel_rfl) (fun _ _ _ h => h) (Or.inl ⟨by kernel_rfl, ?hy⟩) hS ?_
  case hy =>
    intro W hW
    skip
    go_simp
    try with_reducible rfl
  (try simp only [Act.put]); (try simp only [List.setIfInBounds_toArray]); (try simp only [List.set_cons_succ]); (try simp only [List.set_cons_zero])
  refine wpN_take (i := 1) (v := ?_) rfl rfl (by kernel_rfl) (by kernel_rfl) (by kernel_rfl) (by kernel_rfl) (fun _ _ _ h => h) (Or.inl ⟨by kernel_rfl, ?hy⟩) hS ?_
  case hy =>
    intro W hW
    skip
    go_simp
    try with_reducible rfl
  (try simp only [Act.put]); (try simp only [List.setIfInBounds_toArray]); (try simp only [List.set_cons_succ]); (try simp only [List.set_cons_zero])
  refine wpN_take (i := 2) (v := ?_) rfl rfl (by kernel_rfl) (by kernel_rfl) (by kernel_rfl) (by kernel_rfl) (fun _ _ _ h => h) (Or.inl ⟨by kernel_rfl, ?hy⟩) hS ?_
  case hy =>
    intro W hW
    skip
    go_simp
    try with_reducible rfl
  (try simp only [Act.put]); (try simp only [List.setIfInBounds_toArray]); (try simp only [List.set_cons_succ]); (try simp only [List.set_cons_zero])
  refine wpN_take (i := 3) (v := ?_) rfl rfl (by kernel_rfl) (by kernel_rfl) (by kernel_rfl) (by kernel_rfl) (fun _ _ _ h => h) (Or.inl ⟨by kernel_rfl, ?hy⟩) hS ?_
  case hy =>
    intro W hW
    have y := hW.1.1.cell 3
    go_simp
    try with_reducible rfl
  (try simp only [Act.put]); (try simp only [List.setIfInBounds_toArray]); (try simp only [List.set_cons_succ]); (try simp only [List.set_cons_zero])
  refine wpN_take (i := 4) (v := ?_) rfl rfl (by kernel_rfl) (by kernel_rfl) (by kernel_rfl) (by kernel_rfl) (fun _ _ _ h => h) (Or.inl ⟨by kernel_rfl, ?hy⟩) hS ?_
  case hy =>
    intro W hW
    skip
    go_simp
    try with_reducible rfl
  (try simp only [Act.put]); (try simp only [List.setIfInBounds_toArray]); (try simp only [List.set_cons_succ]); (try simp only [List.set_cons_zero])
  refine wpN_take (i := 5) (v := ?_) rfl rfl (by kernel_rfl) (by kernel_rfl) (by kernel_rfl) (by kernel_rfl) (fun _ _ _ h => h) (Or.inl ⟨by kernel_rfl, ?hy⟩) hS ?_
  case hy =>
    intro W hW
    skip
    go_simp
    try with_reducible rfl
  (try simp only [Act.put]); (try simp only [List.setIfInBounds_toArray]); (try simp only [List.set_cons_succ]); (try simp only [List.set_cons_zero])
  refine wpN_take (i := 6) (v := ?_) rfl rfl (by kernel_rfl) (by kernel_rfl) (by kernel_rfl) (by kernel_rfl) (fun _ _ _ h => h) (Or.inl ⟨by kernel_rfl, ?hy⟩) hS ?_
  case hy =>
    intro W hW
    have y := hW.1.2.cell 3
    go_simp
    try with_reducible rfl
  (try simp only [Act.put]); (try simp only [List.setIfInBounds_toArray]); (try simp only [List.set_cons_succ]); (try simp only [List.set_cons_zero])
  refine wpN_take (i := 7) (v := ?_) rfl rfl (by kernel_rfl) (by kernel_rfl) (by kernel_rfl) (by kernel_rfl) (fun _ _ _ h => h) (Or.inl ⟨by kernel_rfl, ?hy⟩) hS ?_
  case hy =>
    intro W hW
    have y := HL.out W hW.2.1
    go_simp
    try with_reducible rfl
  (try simp only [Act.put]); (try simp only [List.setIfInBounds_toArray]); (try simp only [List.set_cons_succ]); (try simp only [List.set_cons_zero])
  refine wpN_take (i := 8) (v := ?_) rfl rfl (by kernel_rfl) (by kernel_rfl) (by kernel_rfl) (by kernel_rfl) (fun _ _ _ h => h) (Or.inl ⟨by kernel_rfl, ?hy⟩) hS ?_
  case hy =>
    intro W hW
    skip
    go_simp
    try with_reducible rfl
  (try simp only [Act.put]); (try simp only [List.setIfInBounds_toArray]); (try simp only [List.set_cons_succ]); (try simp only [List.set_cons_zero])
  refine wpN_take (i := 9) (v := ?_) rfl rfl (by kernel_rfl) (by kernel_rfl) (by kernel_rfl) (by kernel_rfl) (fun _ _ _ h => h) (Or.inl ⟨by kernel_rfl, ?hy⟩) hS ?_
  case hy =>
    intro W hW
    skip
    go_simp
    try with_reducible rfl
  (try simp only [Act.put]); (try simp only [List.setIfInBounds_toArray]); (try simp only [List.set_cons_succ]); (try simp only [List.set_cons_zero])
  refine wpN_take (i := 10) (v := ?_) rfl rfl (by kernel_rfl) (by kernel_rfl) (by kernel_rfl) (by kernel_rfl) (fun _ _ _ h => h) (Or.inl ⟨by kernel_rfl, ?hy⟩) hS ?_
  case hy =>
    intro W hW
    skip
    go_simp
    try with_reducible rfl
  (try simp only [Act.put]); (try simp only [List.setIfInBounds_toArray]); (try simp only [List.set_cons_succ]); (try simp only [List.set_cons_zero])
  refine wpN_take (i := 11) (v := ?_) rfl rfl (by kernel_rfl) (by kernel_rfl) (by kernel_rfl) (by kernel_rfl) (fun _ _ _ h => h) (Or.inl ⟨by kernel_rfl, ?hy⟩) hS ?_
  case hy =>
    intro W hW
    skip
    go_simp
    try with_reducible rfl
  (try simp only [Act.put]); (try simp only [List.setIfInBounds_toArray]); (try simp only [List.set_cons_succ]); (try simp only [List.set_cons_zero])
  refine wpN_only (i := 12) rfl (by kernel_rfl) (fun K hK => ?_)
  go_simp
  refine hK.out _ _ (.inl rfl) ?_
  clear hK K
  refine wpN_done (by kernel_rfl) ?_ _
  refine NoPanic.normal ?_
  clear hS HL
  go_wp2_with fail
  refine wp_gen (fun W => (Blk W p 63 [.int .i64 g, .int .i64 t, .map (some bn), .map (some bo)] ∧ Blk W w.heap.size 69 [.int .i64 s, .int .i64 kind, .int .i64 gsn, .int .i64 txn, .int .i64 prev, .int .i64 page, .string key, .bool bef.has, .string bef.s, .bool aft.has, .string aft.s, .int .i64 undo]) ∧ Below w.heap.size w W) ⟨⟨HB.out.1.1.drew, HB.out.1.2.drew⟩, bl_drew HB.out.2.2⟩ ?_
  clear HB W
  intro W HB
  replace HB := Sh.mk HB
  have n3 : ¬ p = W.heap.size := by have := HB.out.1.1.lt; omega
  have n4 : ¬ w.heap.size = W.heap.size := by have := HB.out.1.2.lt; omega
  refine wp_region_noPanic ?_
  refine wpN_begin 99 (fun W => (Blk W p 63 [.int .i64 g, .int .i64 t, .map (some bn), .map (some bo)] ∧ Blk W w.heap.size 69 [.int .i64 s, .int .i64 kind, .int .i64 gsn, .int .i64 txn, .int .i64 prev, .int .i64 page, .string key, .bool bef.has, .string bef.s, .bool aft.has, .string aft.s, .int .i64 undo]) ∧ Below w.heap.size w W) (by kernel_rfl) ?_
  have hS : (fun W => (Blk W p 63 [.int .i64 g, .int .i64 t, .map (some bn), .map (some bo)] ∧ Blk W w.heap.size 69 [.int .i64 s, .int .i64 kind, .int .i64 gsn, .int .i64 txn, .int .i64 prev, .int .i64 page, .string key, .bool bef.has, .string bef.s, .bool aft.has, .string aft.s, .int .i64 undo]) ∧ Below w.heap.size w W) W.drew := ⟨⟨HB.out.1.1.drew, HB.out.1.2.drew⟩, bl_drew HB.out.2⟩
  refine wpN_take (i := 0) (v := ?_) rfl rfl (by kernel_rfl) (by kernel_rfl) (by kernel_rfl) (by kernel_rfl) (fun _ _ _ h => h) (Or.inl ⟨by kernel_rfl, ?hy⟩) hS ?_
  case hy =>
    intro W hW
    skip
    go_simp
    try with_reducible rfl
  (try simp only [Act.put]); (try simp only [List.setIfInBounds_toArray]); (try simp only [List.set_cons_succ]); (try simp only [List.set_cons_zero])
  refine wpN_take (i := 1) (v := ?_) rfl rfl (by kernel_rfl) (by kernel_rfl) (by kernel_rfl) (by kernel_rfl) (fun _ _ _ h => h) (Or.inl ⟨by kernel_rfl, ?hy⟩) hS ?_
  case hy =>
    intro W hW
    have y1 := hW.1.2.cell 1; have y2 := hW.1.2.cell 2; have y3 := hW.1.2.cell 3; have y4 := hW.1.2.cell 4; have y5 := hW.1.2.cell 5; have y6 := hW.1.2.cell 6; have y7 := hW.1.2.cell 7; have y8 := hW.1.2.cell 8; have y9 := hW.1.2.cell 9; have y10 := hW.1.2.cell 10; have y11 := hW.1.2.cell 11
    go_simp
    try with_reducible rfl
  (try simp only [Act.put]); (try simp only [List.setIfInBounds_toArray]); (try simp only [List.set_cons_succ]); (try simp only [List.set_cons_zero])
  refine wpN_only (i := 2) rfl (by kernel_rfl) (fun K hK => ?_)
  go_simp
  refine goto hK ⟨⟨hS.1.1.alloc _, hS.1.2.alloc _⟩, bl_alloc hS.2 _⟩ ?_
  clear hS hK K
  intro hS
  (try simp only [Act.put]); (try simp only [List.setIfInBounds_toArray]); (try simp only [List.set_cons_succ]); (try simp only [List.set_cons_zero])
  refine wpN_only (i := 3) rfl (by kernel_rfl) (fun K hK => ?_)
  go_simp
  go_at_call 32
  refine (HRT.out _ _ _ (Blk.row (enc := encRec) (x := ⟨kind, gsn, txn, prev, page, key, bef, aft, undo⟩) (b := W.heap.size) (t := 31) (Blk.new' (cs := encRec ⟨kind, gsn, txn, prev, page, key, bef, aft, undo⟩) rfl).drew)).mono ?_
  rintro e w' ⟨rfl, hb2⟩
  refine goto hK ⟨⟨hS.1.1.below hb2, hS.1.2.below hb2⟩, below_then hS.2 hS.2.size hb2⟩ ?_
  clear hS hK K
  intro hS
  (try simp only [Act.put]); (try simp only [List.setIfInBounds_toArray]); (try simp only [List.set_cons_succ]); (try simp only [List.set_cons_zero])
  refine wpN_only (i := 4) rfl (by kernel_rfl) (fun K hK => ?_)
  go_simp
  refine goto hK hS ?_
  clear hS hK K
  intro hS
  (try simp only [Act.put]); (try simp only [List.setIfInBounds_toArray]); (try simp only [List.set_cons_succ]); (try simp only [List.set_cons_zero])
  refine wpN_only (i := 5) rfl (by kernel_rfl) (fun K hK => ?_)
  go_simp
  refine goto hK hS ?_
  clear hS hK K
  intro hS
  (try simp only [Act.put]); (try simp only [List.setIfInBounds_toArray]); (try simp only [List.set_cons_succ]); (try simp only [List.set_cons_zero])
  cases hrt : rt
  all_goals subst hrt
  · refine wpN_take (i := 6) rfl rfl (by kernel_rfl) (by kernel_rfl) (by kernel_rfl) (by kernel_rfl) (fun _ _ _ h => h) (Or.inr ⟨by kernel_rfl, rfl⟩) hS ?_
    (try simp only [Act.put]); (try simp only [List.setIfInBounds_toArray]); (try simp only [List.set_cons_succ]); (try simp only [List.set_cons_zero])
    refine wpN_take (i := 7) rfl rfl (by kernel_rfl) (by kernel_rfl) (by kernel_rfl) (by kernel_rfl) (fun _ _ _ h => h) (Or.inr ⟨by kernel_rfl, rfl⟩) hS ?_
    (try simp only [Act.put]); (try simp only [List.setIfInBounds_toArray]); (try simp only [List.set_cons_succ]); (try simp only [List.set_cons_zero])
    refine wpN_take (i := 8) rfl rfl (by kernel_rfl) (by kernel_rfl) (by kernel_rfl) (by kernel_rfl) (fun _ _ _ h => h) (Or.inr ⟨by kernel_rfl, rfl⟩) hS ?_
    (try simp only [Act.put]); (try simp only [List.setIfInBounds_toArray]); (try simp only [List.set_cons_succ]); (try simp only [List.set_cons_zero])
    refine wpN_take (i := 9) rfl rfl (by kernel_rfl) (by kernel_rfl) (by kernel_rfl) (by kernel_rfl) (fun _ _ _ h => h) (Or.inr ⟨by kernel_rfl, rfl⟩) hS ?_
    (try simp only [Act.put]); (try simp only [List.setIfInBounds_toArray]); (try simp only [List.set_cons_succ]); (try simp only [List.set_cons_zero])
    refine wpN_take (i := 10) rfl rfl (by kernel_rfl) (by kernel_rfl) (by kernel_rfl) (by kernel_rfl) (fun _ _ _ h => h) (Or.inr ⟨by kernel_rfl, rfl⟩) hS ?_
    (try simp only [Act.put]); (try simp only [List.setIfInBounds_toArray]); (try simp only [List.set_cons_succ]); (try simp only [List.set_cons_zero])
    refine wpN_take (i := 11) rfl rfl (by kernel_rfl) (by kernel_rfl) (by kernel_rfl) (by kernel_rfl) (fun _ _ _ h => h) (Or.inr ⟨by kernel_rfl, rfl⟩) hS ?_
    (try simp only [Act.put]); (try simp only [List.setIfInBounds_toArray]); (try simp only [List.set_cons_succ]); (try simp only [List.set_cons_zero])
    refine wpN_take (i := 12) rfl rfl (by kernel_rfl) (by kernel_rfl) (by kernel_rfl) (by kernel_rfl) (fun _ _ _ h => h) (Or.inr ⟨by kernel_rfl, rfl⟩) hS ?_
    (try simp only [Act.put]); (try simp only [List.setIfInBounds_toArray]); (try simp only [List.set_cons_succ]); (try simp only [List.set_cons_zero])
    refine wpN_only (i := 13) rfl (by kernel_rfl) (fun K hK => ?_)
    go_simp
    refine goto hK hS ?_
    clear hS hK K
    intro hS
    (try simp only [Act.put]); (try simp only [List.setIfInBounds_toArray]); (try simp only [List.set_cons_succ]); (try simp only [List.set_cons_zero])
    refine wpN_only (i := 14) rfl (by kernel_rfl) (fun K hK => ?_)
    go_simp
    refine goto hK hS ?_
    clear hS hK K
    intro hS
    (try simp only [Act.put]); (try simp only [List.setIfInBounds_toArray]); (try simp only [List.set_cons_succ]); (try simp only [List.set_cons_zero])
    refine wpN_done (by kernel_rfl) ?_ _
    refine NoPanic.normal ?_
    have z1 := hS.1.2.cell 1
    have hE := Sh.mk hS.2
    clear hS HB HRT HAH HHH
    go_wp2_with fail
    go_ret
    exact ⟨by rw [← HR.out]; simp, hE.out⟩
  · refine wpN_take (i := 6) (v := ?_) rfl rfl (by kernel_rfl) (by kernel_rfl) (by kernel_rfl) (by kernel_rfl) (fun _ _ _ h => h) (Or.inl ⟨by kernel_rfl, ?hy⟩) hS ?_
    case hy =>
      intro W hW
      skip
      go_simp
      try with_reducible rfl
    (try simp only [Act.put]); (try simp only [List.setIfInBounds_toArray]); (try simp only [List.set_cons_succ]); (try simp only [List.set_cons_zero])
    refine wpN_take (i := 7) (v := ?_) rfl rfl (by kernel_rfl) (by kernel_rfl) (by kernel_rfl) (by kernel_rfl) (fun _ _ _ h => h) (Or.inl ⟨by kernel_rfl, ?hy⟩) hS ?_
    case hy =>
      intro W hW
      skip
      go_simp
      try with_reducible rfl
    (try simp only [Act.put]); (try simp only [List.setIfInBounds_toArray]); (try simp only [List.set_cons_succ]); (try simp only [List.set_cons_zero])
    refine wpN_take (i := 8) (v := ?_) rfl rfl (by kernel_rfl) (by kernel_rfl) (by kernel_rfl) (by kernel_rfl) (fun _ _ _ h => h) (Or.inl ⟨by kernel_rfl, ?hy⟩) hS ?_
    case hy =>
      intro W hW
      skip
      go_simp
      try with_reducible rfl
    (try simp only [Act.put]); (try simp only [List.setIfInBounds_toArray]); (try simp only [List.set_cons_succ]); (try simp only [List.set_cons_zero])
    refine wpN_take (i := 9) (v := ?_) rfl rfl (by kernel_rfl) (by kernel_rfl) (by kernel_rfl) (by kernel_rfl) (fun _ _ _ h => h) (Or.inl ⟨by kernel_rfl, ?hy⟩) hS ?_
    case hy =>
      intro W hW
      have y := hW.1.1.cell 0; have y1 := hW.1.1.cell 1
      go_simp
      try with_reducible rfl
    (try simp only [Act.put]); (try simp only [List.setIfInBounds_toArray]); (try simp only [List.set_cons_succ]); (try simp only [List.set_cons_zero])
    refine wpN_take (i := 10) (v := ?_) rfl rfl (by kernel_rfl) (by kernel_rfl) (by kernel_rfl) (by kernel_rfl) (fun _ _ _ h => h) (Or.inl ⟨by kernel_rfl, ?hy⟩) hS ?_
    case hy =>
      intro W hW
      have y0 := hW.1.2.cell 0; have y1 := hW.1.2.cell 1; have y2 := hW.1.2.cell 2; have y3 := hW.1.2.cell 3; have y4 := hW.1.2.cell 4; have y5 := hW.1.2.cell 5; have y6 := hW.1.2.cell 6; have y7 := hW.1.2.cell 7; have y8 := hW.1.2.cell 8; have y9 := hW.1.2.cell 9; have y10 := hW.1.2.cell 10; have y11 := hW.1.2.cell 11
      go_simp
      try with_reducible rfl
    (try simp only [Act.put]); (try simp only [List.setIfInBounds_toArray]); (try simp only [List.set_cons_succ]); (try simp only [List.set_cons_zero])
    refine wpN_only (i := 11) rfl (by kernel_rfl) (fun K hK => ?_)
    go_simp
    go_at_call 33
    refine (HAH.out _).mono ?_
    rintro e w' ⟨rfl, hb2⟩
    refine goto hK ⟨⟨hS.1.1.below hb2, hS.1.2.below hb2⟩, below_then hS.2 hS.2.size hb2⟩ ?_
    clear hS hK K
    intro hS
    (try simp only [Act.put]); (try simp only [List.setIfInBounds_toArray]); (try simp only [List.set_cons_succ]); (try simp only [List.set_cons_zero])
    refine wpN_only (i := 12) rfl (by kernel_rfl) (fun K hK => ?_)
    go_simp
    refine goto hK hS ?_
    clear hS hK K
    intro hS
    (try simp only [Act.put]); (try simp only [List.setIfInBounds_toArray]); (try simp only [List.set_cons_succ]); (try simp only [List.set_cons_zero])
    refine wpN_only (i := 13) rfl (by kernel_rfl) (fun K hK => ?_)
    go_simp
    refine goto hK hS ?_
    clear hS hK K
    intro hS
    (try simp only [Act.put]); (try simp only [List.setIfInBounds_toArray]); (try simp only [List.set_cons_succ]); (try simp only [List.set_cons_zero])
    refine wpN_only (i := 14) rfl (by kernel_rfl) (fun K hK => ?_)
    go_simp
    refine goto hK hS ?_
    clear hS hK K
    intro hS
    (try simp only [Act.put]); (try simp only [List.setIfInBounds_toArray]); (try simp only [List.set_cons_succ]); (try simp only [List.set_cons_zero])
    refine wpN_done (by kernel_rfl) ?_ _
    refine NoPanic.normal ?_
    have z1 := hS.1.2.cell 1
    have hE := Sh.mk hS.2
    clear hS HB HRT HAH HHH
    cases hah : ah
    all_goals subst hah
    · go_wp2_with fail
      go_ret
      exact ⟨by rw [← HR.out]; simp, hE.out⟩
    · by_cases hk : kind = 1
      · have hk1 : (kind != 1) = false := by simp [hk]
        have hk2 : (kind == 1) = true := by simp [hk]
        cases ho : o
        all_goals subst ho
        all_goals
          go_wp2_with fail
          go_ret
          exact ⟨by rw [← HR.out]; simp [hk1, hk2], hE.out⟩
      · have hk1 : (kind != 1) = true := by simp [hk]
        have hk2 : (kind == 1) = false := by simp [hk]
        cases ho : o
        all_goals subst ho
        all_goals
          go_wp2_with fail
          go_ret
          exact ⟨by rw [← HR.out]; simp [hk1, hk2], hE.out⟩
end Go.Proofs.Ytbjpilnlkmajpaa
