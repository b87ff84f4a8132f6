import Derived.Test.YtbjpilnlkmajpaaRep
namespace Go.Proofs.Ytbjpilnlkmajpaa
set_option linter.unusedVariables false
set_option linter.unusedSimpArgs false
open Go.RowKit Go.Maps Go.Proofs.K

set_option maxHeartbeats 2000000 in
set_option maxRecDepth 100000 in
theorem take5_calls (p bn bo B : Nat) (g0 t0 : Int) (O : Int → Option Value) (x : BR) (w : World) (hk : x.r.kind = 5)
    (hb : Blk w p 63 [.int .i64 g0, .int .i64 t0, .map (some bn), .map (some bo)]) (hp : ¬ bo = p) (hwx : (Lit.int .i64 x.r.txn).wf = true)
    (hnp : ¬ bn = p) (hno : ¬ bn = bo) (m : ByteArray → Option ByteArray) (N : Nat) (hm : MapSS Try.prog 9 9 w bn N m) (hown : MapIV Try.prog 3 w bo B O) (ov : Value) (rs : List RC) (hov : (O x.r.txn).getD (.slice none 0 0) = ov) (hB : N + rs.length < maxLen) (hrow : Own encRec 31 11 w 0 ov rs) (hro : ∀ k, ov.ownBlock = some k → k ≠ p ∧ k ≠ bn ∧ k ≠ bo) (hks : ∀ r ∈ rs, r.key.size ≤ maxLen ∧ r.aft.s.size ≤ maxLen) :
    Calls Try.prog 24 #[.pointer (some ⟨p, 0, none⟩), .agg (encBR x).toArray] w fun e w' => e = .returned (.tuple #[]) ∧ Blk w' p 63 [.int .i64 x.r.gsn, .int .i64 x.stream, .map (some bn), .map (some bo)] ∧ MapSS Try.prog 9 9 w' bn (N + rs.length) (commitF m rs) ∧ MapIV Try.prog 3 w' bo B (updI O x.r.txn none) ∧ Chg (fun k => k = p ∨ k = bn ∨ k = bo) w w' := by
  have hpl := hb.lt
  have n1 : ¬ p = w.heap.size := by omega
  have n2 : ¬ w.heap.size = p := by omega
  have c0 : w.cell? ⟨p, 0, none⟩ = some (.int .i64 g0) := hb.cell 0
  have c1 : w.cell? ⟨p, 1, none⟩ = some (.int .i64 t0) := hb.cell 1
  have f0 := hb.frozen 0
  have f1 := hb.frozen 1
  obtain ⟨s, kind, gsn, txn, prev, page, key, bef, aft, undo⟩ := x
  dsimp only at hk ⊢
  subst hk
  show Calls _ _ #[_, .agg #[.int .i64 s, .int .i64 5, .int .i64 gsn, .int .i64 txn, .int .i64 prev, .int .i64 page, .string key, .bool bef.has, .string bef.s, .bool aft.has, .string aft.s, .int .i64 undo]] _ _
  go_enter Try.func24, Try.ntmps24
  go_wp2_with fail
  refine calls_gen (fun wr => Blk wr p 63 [.int .i64 gsn, .int .i64 s, .map (some bn), .map (some bo)] ∧ Blk wr w.heap.size 69 [.int .i64 s, .int .i64 5, .int .i64 gsn, .int .i64 txn, .int .i64 prev, .int .i64 page, .string key, .bool bef.has, .string bef.s, .bool aft.has, .string aft.s, .int .i64 undo] ∧ Chg (fun k => k = p) w wr) ⟨?_, ?_, ?_⟩ ?_
  · exact ((hb.set 0 _).set 1 _).alloc _
  · exact Blk.new' (by simp)
  · refine Chg.alloc (Chg.setCell (Chg.setCell (Chg.refl _ w) ?_ _) ?_ _) _ <;> rfl
  rintro wr ⟨hb1, hbx, hch⟩
  have d2 : wr.cell? ⟨p, 2, none⟩ = some (.map (some bn)) := hb1.cell 2
  have d3 : wr.cell? ⟨p, 3, none⟩ = some (.map (some bo)) := hb1.cell 3
  have x3 : wr.cell? ⟨w.heap.size, 3, none⟩ = some (.int .i64 txn) := hbx.cell 3
  have hown1 := hown.chg hch hp
  have hm1 := hm.chg hch hnp
  have hrow1 := hrow.chg hch (fun k hk => (hro k hk).1)
  have H := commit_calls p bn bo N gsn s m O txn rs ov B wr hb1 hm1 hB hown1 hnp hwx hov hrow1 (fun k hk => (hro k hk).2.1) hks
  have HBX := Sh.mk hbx
  have HB1 := Sh.mk hb1
  have hnb : ¬ w.heap.size = bn := by have := hm.lt; omega
  have HW := Sh.mk hwx
  have HO := Sh.mk hown1
  have HC := Sh.mk hch
  have HN := Sh.mk (And.intro hnp hno)
  have HP := Sh.mk hp
  clear c0 c1 f0 f1 hb hm hown hov hrow hro hks hown1 hm1 hrow1 hb1 hbx hch hwx hnp hno hB hp
  refine H.mono ?_
  rintro e w1 ⟨rfl, hm2, hc1⟩
  have y2 := hc1.cell_of d2 (fun e => HN.out.1 e.symm)
  have y3 := hc1.cell_of d3 (fun e => HN.out.1 e.symm)
  have z3 := hc1.cell_of x3 hnb
  clear d2 d3 x3
  go_wp2_with fail
  go_still_tail 7, (by kernel_rfl)
  change wpList _ _ _ _ _ w1.drew
  have hown2 : MapIV Try.prog 3 w1.drew bo B O := (HO.out.chg hc1 (fun e => HN.out.2 e.symm)).chg (Chg.refl (fun _ => False) w1).drew (fun h => h)
  go_wp2_with (at_delete; refine wpl_del_IV _ rfl _ _ 61 rfl Try.underlying3 Try.underlying61 hown2 txn HW.out rfl rfl ?_; intro w2 hown3 hturn)
  go_end0
  have hc := Chg.trans (F := fun k => k = bo) (w := w1) (Chg.refl _ _).drew hturn (fun _ _ h => h)
  refine ⟨rfl, (HB1.out.chg hc1 (fun e => HN.out.1 e.symm)).chg hc (fun e => HP.out e.symm), hm2.chg hc HN.out.2, hown3, ?_⟩
  exact ((HC.out.mono fun _ _ h => Or.inl h).trans (hc1.mono (G := fun k => k = p ∨ k = bn ∨ k = bo) fun _ _ h => .inr (.inl h)) fun _ _ h => h).trans hc fun _ _ h => .inr (.inr h)

set_option maxHeartbeats 400000 in
theorem isNaN_calls (a : Int) (w : World) : Calls Try.prog 55 #[.int .i64 a] w fun e w' => e = .returned (.bool false) ∧ w = w' := by
  go_enter Try.func55, Try.ntmps55
  go_wp2
  go_ret
  exact ⟨by simp, rfl⟩
def cmpI (a b : Int) : Int := if a < b then -1 else if b < a then 1 else 0
set_option maxHeartbeats 400000 in
theorem compare_calls (a b : Int) (w : World) : Calls Try.prog 44 #[.int .i64 a, .int .i64 b] w fun e w' => e = .returned (.int .i64 (cmpI a b)) ∧ w = w' := by
  go_enter Try.func44, Try.ntmps44
  go_wp2_with (go_at_call 55; refine (isNaN_calls _ _).mono ?_; rintro e w' ⟨rfl, rfl⟩)
  all_goals (go_ret; exact ⟨by simp [cmpI]; try omega, rfl⟩)
def orI (x y : Int) : Int := if x = 0 then y else x
set_option maxHeartbeats 400000 in
theorem or2_calls (b : Nat) (x y : Int) (w : World) (h0 : w.cell? ⟨b, 0, none⟩ = some (.int .i64 x)) (h1 : w.cell? ⟨b, 1, none⟩ = some (.int .i64 y)) :
    Calls Try.prog 43 #[.slice (some ⟨b, 0, none⟩) 2 2] w fun e w' => e = .returned (.int .i64 (orI x y)) ∧ w = w' := by
  unfold orI
  by_cases hx : x = 0
  · subst hx
    by_cases hy : y = 0
    · subst hy
      go_enter Try.func43, Try.ntmps43
      go_wp2
      refine wp_loop_rounds 3 ?_
      iterate 3 (rw [rounds_succ]; go_wp2)
      go_ret; exact ⟨by simp, rfl⟩
    · have hy' : (y != 0) = true := by simpa using hy
      go_enter Try.func43, Try.ntmps43
      go_wp2
      refine wp_loop_rounds 3 ?_
      iterate 2 (rw [rounds_succ]; go_wp2)
      go_ret; exact ⟨by simp, rfl⟩
  · have hx' : (x != 0) = true := by simpa using hx
    go_enter Try.func43, Try.ntmps43
    go_wp2
    refine wp_loop_rounds 3 ?_
    iterate 1 (rw [rounds_succ]; go_wp2)
    go_ret; exact ⟨by simp [hx], rfl⟩

def aheadF (g t : Int) (x : BR) : Bool := decide (g < x.r.gsn ∨ g = x.r.gsn ∧ t < x.stream)
theorem ahead_eq (g t : Int) (x : BR) : decide (orI (cmpI g x.r.gsn) (cmpI t x.stream) < 0) = aheadF g t x := by
  unfold aheadF cmpI orI
  congr 1
  apply propext
  split <;> split <;> (try split) <;> omega

end Go.Proofs.Ytbjpilnlkmajpaa
