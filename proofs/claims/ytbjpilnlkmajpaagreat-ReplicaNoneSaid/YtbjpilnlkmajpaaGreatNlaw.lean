import Derived.Test.YtbjpilnlkmajpaaGreatNone
namespace Go.Proofs.YtbjpilnlkmajpaaGreat
set_option linter.unusedVariables false
set_option linter.unusedSimpArgs false
open Go.RowKit Go.Maps Go.Proofs.K

set_option maxHeartbeats 4000000 in
set_option maxRecDepth 100000 in
theorem none_calls (x : BR) (key : ByteArray) (w : World) (hk : key.size ≤ maxLen) :
    Calls Tryz.prog 3 #[.agg (encBR x).toArray, .string key] w fun e w' => e = .returned (.bool true) ∧ Below w.heap.size w w' := by
  have HG := Sh.mk (fun (b : Nat) (W : World) (h : Blk W b 27 (encBR x)) => great18_calls (some ⟨b, 0, none⟩) 1 [x] W h.row (by simp))
  have HO := Sh.mk (fun (b : Nat) (W : World) (h : Blk W b 27 (encBR x)) => Of_calls (some ⟨b, 0, none⟩) 1 [x] W h.row (by simp))
  generalize greatB [x] = gr at HG
  have ev : ∀ W : World, (binOp .eql 23 (.agg #[.bool false, .string ⟨#[]⟩]) (.agg #[.bool false, .string ⟨#[]⟩])).run Tryz.prog W = .ok (.bool true) W := fun W => by
    have h := eqV ⟨false, ⟨#[]⟩⟩ ⟨false, ⟨#[]⟩⟩ W
    rw [decide_eq_true rfl] at h
    exact h
  have HX := Sh.mk (show Blk (w.alloc (.cells #[.int .i64 x.stream, .int .i64 x.r.kind, .int .i64 x.r.gsn, .int .i64 x.r.txn, .int .i64 x.r.prev, .int .i64 x.r.page, .string x.r.key, .bool x.r.bef.has, .string x.r.bef.s, .bool x.r.aft.has, .string x.r.aft.s, .int .i64 x.r.undo] 27)) w.heap.size 27 [.int .i64 x.stream, .int .i64 x.r.kind, .int .i64 x.r.gsn, .int .i64 x.r.txn, .int .i64 x.r.prev, .int .i64 x.r.page, .string x.r.key, .bool x.r.bef.has, .string x.r.bef.s, .bool x.r.aft.has, .string x.r.aft.s, .int .i64 x.r.undo] from Blk.new _ _ _)
  show Calls _ _ #[.agg #[.int .i64 x.stream, .int .i64 x.r.kind, .int .i64 x.r.gsn, .int .i64 x.r.txn, .int .i64 x.r.prev, .int .i64 x.r.page, .string x.r.key, .bool x.r.bef.has, .string x.r.bef.s, .bool x.r.aft.has, .string x.r.aft.s, .int .i64 x.r.undo], _] _ _
  cases gr
  · by_cases hkk : 100 < key.size
    · have hd : decide ((100 : Int) < (key.size : Int)) = true := by simp; omega
      go_enter Tryz.func3, Tryz.ntmps3
      go_wp2_with (first | (go_at_call 4; refine (HG.out _ _ (by exact Blk.new' (by simp))).mono ?_; rintro e w1 ⟨rfl, hb1⟩) | (go_at_call 5; refine (awake_calls _).mono ?_; rintro e w2 ⟨rfl, hb2⟩))
      go_ret
      exact ⟨rfl, below_trans (below_trans (bl_alloc (bl_alloc (Below.refl _ _) _) _) hb1) hb2⟩
    · have hd : decide ((100 : Int) < (key.size : Int)) = false := by simp; omega
      go_enter Tryz.func3, Tryz.ntmps3
      go_wp2_with fail
      refine (HG.out _ _ (by exact Blk.new' (by simp))).mono ?_
      rintro e w1 ⟨rfl, hb1⟩
      have hba := below_trans (bl_alloc (bl_alloc (Below.refl _ _) _) _) hb1
      have HX1 := Sh.mk ((HX.out.alloc (.cells #[.int .i64 x.stream, .int .i64 x.r.kind, .int .i64 x.r.gsn, .int .i64 x.r.txn, .int .i64 x.r.prev, .int .i64 x.r.page, .string x.r.key, .bool x.r.bef.has, .string x.r.bef.s, .bool x.r.aft.has, .string x.r.aft.s, .int .i64 x.r.undo] 27)).below hb1)
      have HB := Sh.mk hba
      clear hb1 hba HX
      go_wp2_with fail
      refine (awake_calls _).mono ?_
      rintro e w2 ⟨rfl, hb2⟩
      replace HB := Sh.mk (below_trans HB.out hb2)
      have HX2 := HX1.out.below hb2
      clear hb2 HX1
      have hn2 : ¬ w2.heap.size = w.heap.size := by have := HX2.lt; omega
      have x0 := HX2.cell 0
      have x1 := HX2.cell 1
      have x2 := HX2.cell 2
      have x3 := HX2.cell 3
      have x4 := HX2.cell 4
      have x5 := HX2.cell 5
      have x6 := HX2.cell 6
      have x7 := HX2.cell 7
      have x8 := HX2.cell 8
      have x9 := HX2.cell 9
      have x10 := HX2.cell 10
      have x11 := HX2.cell 11
      clear HX2
      go_wp2_with fail
      refine (HO.out _ _ (by exact Blk.new' (by simp))).mono ?_
      rintro e w3 ⟨v, rfl, _, hb3⟩
      replace HB := Sh.mk (below_trans HB.out (below_trans (bl_alloc (Below.refl _ _) _) hb3))
      clear hb3 x0 x1 x2 x3 x4 x5 x6 x7 x8 x9 x10 x11
      go_wp2_with (first | (go_at_call 6; refine (nil_Take _ _).mono ?_; rintro e w' ⟨rfl, rfl⟩) | (go_at_call 8; refine (nil_Follow _ _ (.inl rfl)).mono ?_; rintro e w' ⟨rfl, rfl⟩))
      refine (New_calls none 0 [] _ (RowOf.nil _ _) (by simp) (by simp)).mono ?_
      rintro e w4 ⟨p4, rfl, _, _, hb4⟩
      replace HB := Sh.mk (below_trans HB.out hb4)
      clear hb4
      go_wp2_with fail
      refine (nil_Follow _ _ (.inr ⟨_, rfl⟩)).mono ?_
      rintro e w' ⟨rfl, rfl⟩
      go_wp2_with fail
      refine (nil_Place _).mono ?_
      rintro e w' ⟨rfl, rfl⟩
      go_wp2_with fail
      refine (New_calls none 0 [] _ (RowOf.nil _ _) (by simp) (by simp)).mono ?_
      rintro e w5 ⟨p5, rfl, _, hs5, hb5⟩
      replace HB := Sh.mk (below_trans HB.out hb5)
      have HS := Sh.mk hs5
      clear hb5 hs5
      go_wp2_with fail
      refine (Place_calls _ _ _ _ _ _ HS.out).mono ?_
      rintro e w6 ⟨rfl, hb6⟩
      replace HB := Sh.mk (below_trans HB.out hb6)
      clear hb6 HS
      have hg0 : (newS []).gsn = 0 := rfl
      have hs1 : (newS []).str = -1 := rfl
      rw [hg0, hs1]
      clear hg0 hs1
      go_wp2_with fail
      refine (nil_Cells _).mono ?_
      rintro e w' ⟨rfl, rfl⟩
      go_wp2_with fail
      refine (nil_Get _ _).mono ?_
      rintro e w7 ⟨rfl, hb7⟩
      replace HB := Sh.mk (below_trans HB.out hb7)
      clear hb7
      go_wp2_with fail
      refine (nil_Open _).mono ?_
      rintro e w' ⟨rfl, rfl⟩
      go_wp2_with fail
      refine (nil_Behind _).mono ?_
      rintro e w' ⟨rfl, rfl⟩
      go_wp2_with fail
      go_ret
      exact ⟨rfl, HB.out⟩
  · go_enter Tryz.func3, Tryz.ntmps3
    go_wp2_with (first | (go_at_call 4; refine (HG.out _ _ (by exact Blk.new' (by simp))).mono ?_; rintro e w1 ⟨rfl, hb1⟩) | (go_at_call 5; refine (awake_calls _).mono ?_; rintro e w2 ⟨rfl, hb2⟩))
    go_ret
    exact ⟨rfl, below_trans (below_trans (bl_alloc (bl_alloc (Below.refl _ _) _) _) hb1) hb2⟩
end Go.Proofs.YtbjpilnlkmajpaaGreat

