import Derived.Test.YtbjpilnlkmajpaaRec
import Derived.Test.YtbjpilnlkmajpaaMap
import Derived.Test.YtbjpilnlkmajpaaReg
namespace Go.Proofs.Ytbjpilnlkmajpaa
set_option linter.unusedVariables false
set_option linter.unusedSimpArgs false
open Go.RowKit Go.Maps Go.Proofs.K

structure BR where
  stream : Int
  r : RC
def encBR (x : BR) : List Value := .int .i64 x.stream :: encRec x.r

structure RS where
  gsn : Int
  str : Int
  now : ByteArray → Option ByteArray
  opn : Int → Option (List RC)

/-- A replica in memory: its blocks are F's. -/
structure RepAt (w : World) (p N M : Nat) (F : Nat → Prop) (s : RS) (bn bo : Nat) (O : Int → Option Value) : Prop where
  blk : Blk w p 63 [.int .i64 s.gsn, .int .i64 s.str, .map (some bn), .map (some bo)]
  now : MapSS Try.prog 9 9 w bn N s.now
  opn : MapIV Try.prog 3 w bo M O
  fp : F p
  fn : F bn
  fo : F bo
  np : ¬ bn = p
  op : ¬ bo = p
  no : ¬ bn = bo
  same : ∀ id, (O id).isSome = (s.opn id).isSome
  rows : ∀ id rs v, s.opn id = some rs → O id = some v → Own encRec 31 11 w 0 v rs ∧ rs.length ≤ M ∧ (∀ r ∈ rs, r.key.size ≤ maxLen ∧ r.aft.s.size ≤ maxLen) ∧ ∀ k, v.ownBlock = some k → F k ∧ k ≠ p ∧ k ≠ bn ∧ k ≠ bo
  apart : ∀ i j v u k, i ≠ j → O i = some v → O j = some u → v.ownBlock = some k → u.ownBlock ≠ some k
def IsRep (w : World) (p N M : Nat) (F : Nat → Prop) (s : RS) : Prop := ∃ bn bo O, RepAt w p N M F s bn bo O

theorem zeroStr (w : World) : (zeroValue 9).run Try.prog w = .ok (.string ⟨#[]⟩) w := by kernel_rfl
theorem zeroRecs (w : World) : (zeroValue 35).run Try.prog w = .ok (.slice none 0 0) w := by kernel_rfl

set_option maxHeartbeats 2000000 in
set_option maxRecDepth 100000 in
theorem take1_calls (p bn bo B : Nat) (g0 t0 : Int) (O : Int → Option Value) (x : BR) (w : World) (hk : x.r.kind = 1)
    (hb : Blk w p 63 [.int .i64 g0, .int .i64 t0, .map (some bn), .map (some bo)]) (hp : ¬ bo = p) (hwx : (Lit.int .i64 x.r.txn).wf = true)
    (hown : MapIV Try.prog 3 w bo B O) (hn : B < maxLen) :
    Calls Try.prog 24 #[.pointer (some ⟨p, 0, none⟩), .agg (encBR x).toArray] w fun e w' => e = .returned (.tuple #[]) ∧ Blk w' p 63 [.int .i64 x.r.gsn, .int .i64 x.stream, .map (some bn), .map (some bo)] ∧ MapIV Try.prog 3 w' bo (B + 1) (updI O x.r.txn (some (.slice none 0 0))) ∧ Chg (fun k => k = p ∨ k = bo) w w' := by
  have hpl := hb.lt
  have n1 : ¬ p = w.heap.size := by omega
  have n2 : ¬ w.heap.size = p := by omega
  have c0 : w.cell? ⟨p, 0, none⟩ = some (.int .i64 g0) := hb.cell 0
  have c1 : w.cell? ⟨p, 1, none⟩ = some (.int .i64 t0) := hb.cell 1
  have f0 := hb.frozen 0
  have f1 := hb.frozen 1
  obtain ⟨s, kind, gsn, txn, prev, page, key, bef, aft, undo⟩ := x
  dsimp only at hk ⊢
  subst hk
  show Calls _ _ #[_, .agg #[.int .i64 s, .int .i64 1, .int .i64 gsn, .int .i64 txn, .int .i64 prev, .int .i64 page, .string key, .bool bef.has, .string bef.s, .bool aft.has, .string aft.s, .int .i64 undo]] _ _
  go_enter Try.func24, Try.ntmps24
  go_wp2_with fail
  refine wp_gen (fun wr => Blk wr p 63 [.int .i64 gsn, .int .i64 s, .map (some bn), .map (some bo)] ∧ Blk wr w.heap.size 69 [.int .i64 s, .int .i64 1, .int .i64 gsn, .int .i64 txn, .int .i64 prev, .int .i64 page, .string key, .bool bef.has, .string bef.s, .bool aft.has, .string aft.s, .int .i64 undo] ∧ Chg (fun k => k = p) w wr) ⟨?_, ?_, ?_⟩ ?_
  · exact ((hb.set 0 _).set 1 _).alloc _
  · exact Blk.new' (by simp)
  · refine Chg.alloc (Chg.setCell (Chg.setCell (Chg.refl _ w) ?_ _) ?_ _) _ <;> rfl
  rintro wr ⟨hb1, hbx, hch⟩
  have d2 : wr.cell? ⟨p, 2, none⟩ = some (.map (some bn)) := hb1.cell 2
  have d3 : wr.cell? ⟨p, 3, none⟩ = some (.map (some bo)) := hb1.cell 3
  have x3 : wr.cell? ⟨w.heap.size, 3, none⟩ = some (.int .i64 txn) := hbx.cell 3
  have hown1 := hown.chg hch hp
  go_wp2_with fail
  go_still_tail 7, (by kernel_rfl)
  change wpList _ _ _ _ _ wr.drew
  have hown2 : MapIV Try.prog 3 wr.drew bo B O := hown1.chg (Chg.refl (fun _ => False) wr).drew (fun h => h)
  go_wp2_with (at_mapUpdate; refine wpl_put_IV _ rfl _ _ _ 61 rfl Try.underlying3 Try.underlying61 hown2 hn txn _ hwx rfl rfl rfl ?_; intro w1 hown3 hturn)
  go_end0
  have hc := Chg.trans (F := fun k => k = bo) (w := wr) (Chg.refl _ _).drew hturn (fun _ _ h => h)
  exact ⟨rfl, hb1.chg hc (Ne.symm hp), hown3, (hch.mono fun _ _ h => Or.inl h).trans hc (fun _ _ h => Or.inr h)⟩

set_option maxHeartbeats 2000000 in
set_option maxRecDepth 100000 in
theorem take6_calls (p bn bo B : Nat) (g0 t0 : Int) (O : Int → Option Value) (x : BR) (w : World) (hk : x.r.kind = 6)
    (hb : Blk w p 63 [.int .i64 g0, .int .i64 t0, .map (some bn), .map (some bo)]) (hp : ¬ bo = p) (hwx : (Lit.int .i64 x.r.txn).wf = true)
    (hown : MapIV Try.prog 3 w bo B O) :
    Calls Try.prog 24 #[.pointer (some ⟨p, 0, none⟩), .agg (encBR x).toArray] w fun e w' => e = .returned (.tuple #[]) ∧ Blk w' p 63 [.int .i64 x.r.gsn, .int .i64 x.stream, .map (some bn), .map (some bo)] ∧ MapIV Try.prog 3 w' bo B (updI O x.r.txn none) ∧ Chg (fun k => k = p ∨ k = bo) w w' := by
  have hpl := hb.lt
  have n1 : ¬ p = w.heap.size := by omega
  have n2 : ¬ w.heap.size = p := by omega
  have c0 : w.cell? ⟨p, 0, none⟩ = some (.int .i64 g0) := hb.cell 0
  have c1 : w.cell? ⟨p, 1, none⟩ = some (.int .i64 t0) := hb.cell 1
  have f0 := hb.frozen 0
  have f1 := hb.frozen 1
  obtain ⟨s, kind, gsn, txn, prev, page, key, bef, aft, undo⟩ := x
  dsimp only at hk ⊢
  subst hk
  show Calls _ _ #[_, .agg #[.int .i64 s, .int .i64 6, .int .i64 gsn, .int .i64 txn, .int .i64 prev, .int .i64 page, .string key, .bool bef.has, .string bef.s, .bool aft.has, .string aft.s, .int .i64 undo]] _ _
  go_enter Try.func24, Try.ntmps24
  go_wp2_with fail
  refine wp_gen (fun wr => Blk wr p 63 [.int .i64 gsn, .int .i64 s, .map (some bn), .map (some bo)] ∧ Blk wr w.heap.size 69 [.int .i64 s, .int .i64 6, .int .i64 gsn, .int .i64 txn, .int .i64 prev, .int .i64 page, .string key, .bool bef.has, .string bef.s, .bool aft.has, .string aft.s, .int .i64 undo] ∧ Chg (fun k => k = p) w wr) ⟨?_, ?_, ?_⟩ ?_
  · exact ((hb.set 0 _).set 1 _).alloc _
  · exact Blk.new' (by simp)
  · refine Chg.alloc (Chg.setCell (Chg.setCell (Chg.refl _ w) ?_ _) ?_ _) _ <;> rfl
  rintro wr ⟨hb1, hbx, hch⟩
  have d2 : wr.cell? ⟨p, 2, none⟩ = some (.map (some bn)) := hb1.cell 2
  have d3 : wr.cell? ⟨p, 3, none⟩ = some (.map (some bo)) := hb1.cell 3
  have x3 : wr.cell? ⟨w.heap.size, 3, none⟩ = some (.int .i64 txn) := hbx.cell 3
  have hown1 := hown.chg hch hp
  go_wp2_with fail
  go_still_tail 7, (by kernel_rfl)
  change wpList _ _ _ _ _ wr.drew
  have hown2 : MapIV Try.prog 3 wr.drew bo B O := hown1.chg (Chg.refl (fun _ => False) wr).drew (fun h => h)
  go_wp2_with (at_delete; refine wpl_del_IV _ rfl _ _ 61 rfl Try.underlying3 Try.underlying61 hown2 txn hwx rfl rfl ?_; intro w1 hown3 hturn)
  go_end0
  have hc := Chg.trans (F := fun k => k = bo) (w := wr) (Chg.refl _ _).drew hturn (fun _ _ h => h)
  exact ⟨rfl, hb1.chg hc (Ne.symm hp), hown3, (hch.mono fun _ _ h => Or.inl h).trans hc (fun _ _ h => Or.inr h)⟩

set_option maxHeartbeats 2000000 in
set_option maxRecDepth 100000 in
theorem take4_calls (p bn bo B : Nat) (g0 t0 : Int) (O : Int → Option Value) (x : BR) (w : World) (hk : (x.r.kind == 1) = false ∧ (x.r.kind == 2) = false ∧ (x.r.kind == 3) = false ∧ (x.r.kind == 5) = false ∧ (x.r.kind == 6) = false)
    (hb : Blk w p 63 [.int .i64 g0, .int .i64 t0, .map (some bn), .map (some bo)]) (hp : ¬ bo = p) (hwx : (Lit.int .i64 x.r.txn).wf = true)
    :
    Calls Try.prog 24 #[.pointer (some ⟨p, 0, none⟩), .agg (encBR x).toArray] w fun e w' => e = .returned (.tuple #[]) ∧ Blk w' p 63 [.int .i64 x.r.gsn, .int .i64 x.stream, .map (some bn), .map (some bo)] ∧ Chg (fun k => k = p) w w' := by
  have hpl := hb.lt
  have n1 : ¬ p = w.heap.size := by omega
  have n2 : ¬ w.heap.size = p := by omega
  have c0 : w.cell? ⟨p, 0, none⟩ = some (.int .i64 g0) := hb.cell 0
  have c1 : w.cell? ⟨p, 1, none⟩ = some (.int .i64 t0) := hb.cell 1
  have f0 := hb.frozen 0
  have f1 := hb.frozen 1
  obtain ⟨s, kind, gsn, txn, prev, page, key, bef, aft, undo⟩ := x
  dsimp only at hk ⊢
  show Calls _ _ #[_, .agg #[.int .i64 s, .int .i64 kind, .int .i64 gsn, .int .i64 txn, .int .i64 prev, .int .i64 page, .string key, .bool bef.has, .string bef.s, .bool aft.has, .string aft.s, .int .i64 undo]] _ _
  go_enter Try.func24, Try.ntmps24
  go_wp2_with fail
  go_end0
  exact ⟨rfl, ((hb.set 0 _).set 1 _).alloc _, by refine Chg.alloc (Chg.setCell (Chg.setCell (Chg.refl _ w) ?_ _) ?_ _) _ <;> rfl⟩

set_option maxHeartbeats 2000000 in
set_option maxRecDepth 100000 in
theorem take2_calls (p bn bo B : Nat) (g0 t0 : Int) (O : Int → Option Value) (x : BR) (w : World) (hk : x.r.kind = 2)
    (hb : Blk w p 63 [.int .i64 g0, .int .i64 t0, .map (some bn), .map (some bo)]) (hp : ¬ bo = p) (hwx : (Lit.int .i64 x.r.txn).wf = true)
    (hown : MapIV Try.prog 3 w bo B O) (hn : B < maxLen) (ov : Value) (rs : List RC) (hov : (O x.r.txn).getD (.slice none 0 0) = ov) (hrow : Own encRec 31 11 w 0 ov rs) (hro : ∀ k, ov.ownBlock = some k → k ≠ p ∧ k ≠ bo) (hlen : rs.length + 1 ≤ 1000000000) :
    Calls Try.prog 24 #[.pointer (some ⟨p, 0, none⟩), .agg (encBR x).toArray] w fun e w' => ∃ ov' : Value, e = .returned (.tuple #[]) ∧ Blk w' p 63 [.int .i64 x.r.gsn, .int .i64 x.stream, .map (some bn), .map (some bo)] ∧ MapIV Try.prog 3 w' bo (B + 1) (updI O x.r.txn (some ov')) ∧ Own encRec 31 11 w' 0 ov' (rs ++ [x.r]) ∧ (ov'.ownBlock = ov.ownBlock ∨ ∃ k, ov'.ownBlock = some k ∧ w.heap.size ≤ k) ∧ Chg (fun k => k = p ∨ k = bo ∨ some k = ov.ownBlock) w w' := by
  have hpl := hb.lt
  have n1 : ¬ p = w.heap.size := by omega
  have n2 : ¬ w.heap.size = p := by omega
  have c0 : w.cell? ⟨p, 0, none⟩ = some (.int .i64 g0) := hb.cell 0
  have c1 : w.cell? ⟨p, 1, none⟩ = some (.int .i64 t0) := hb.cell 1
  have f0 := hb.frozen 0
  have f1 := hb.frozen 1
  obtain ⟨s, kind, gsn, txn, prev, page, key, bef, aft, undo⟩ := x
  dsimp only at hk ⊢
  subst hk
  show Calls _ _ #[_, .agg #[.int .i64 s, .int .i64 2, .int .i64 gsn, .int .i64 txn, .int .i64 prev, .int .i64 page, .string key, .bool bef.has, .string bef.s, .bool aft.has, .string aft.s, .int .i64 undo]] _ _
  go_enter Try.func24, Try.ntmps24
  go_wp2_with fail
  refine wp_gen (fun wr => Blk wr p 63 [.int .i64 gsn, .int .i64 s, .map (some bn), .map (some bo)] ∧ Blk wr w.heap.size 69 [.int .i64 s, .int .i64 2, .int .i64 gsn, .int .i64 txn, .int .i64 prev, .int .i64 page, .string key, .bool bef.has, .string bef.s, .bool aft.has, .string aft.s, .int .i64 undo] ∧ Chg (fun k => k = p) w wr) ⟨?_, ?_, ?_⟩ ?_
  · exact ((hb.set 0 _).set 1 _).alloc _
  · exact Blk.new' (by simp)
  · refine Chg.alloc (Chg.setCell (Chg.setCell (Chg.refl _ w) ?_ _) ?_ _) _ <;> rfl
  rintro wr ⟨hb1, hbx, hch⟩
  have d2 : wr.cell? ⟨p, 2, none⟩ = some (.map (some bn)) := hb1.cell 2
  have d3 : wr.cell? ⟨p, 3, none⟩ = some (.map (some bo)) := hb1.cell 3
  have x3 : wr.cell? ⟨w.heap.size, 3, none⟩ = some (.int .i64 txn) := hbx.cell 3
  change (Lit.int .i64 txn).wf = true at hwx
  change (O txn).getD (.slice none 0 0) = ov at hov
  have hown1 := hown.chg hch hp
  have hrow1 := hrow.chg hch (fun k hk => (hro k hk).1)
  have hlt : w.heap.size < wr.heap.size := hbx.lt
  have hpr : p < wr.heap.size := hb1.lt
  have hor : bo < wr.heap.size := hown1.lt
  have hzs : ∀ W, (zeroValue 35).run Try.prog W = .ok (.slice none 0 0) W := zeroRecs
  have HO := Sh.mk hown1
  have hl0 : ∀ W, MapIV Try.prog 3 W bo B O → (Instr.lookup 61 (.map (some bo)) (.int .i64 txn) false).run Try.prog W = .ok ov W := fun W h => hov ▸ (h.look Try.underlying3 Try.underlying61 (hzs W) txn hwx).2
  have HL := Sh.mk hl0
  clear hown1 hov hown hl0 hzs
  have i0 : (Try.prog.info? 31).map (fun i => (i.zero, i.size, i.bytes)) = some (some (.agg #[.int .i64 0, .int .i64 0, .int .i64 0, .int .i64 0, .int .i64 0, .string ⟨#[]⟩, .bool false, .string ⟨#[]⟩, .bool false, .string ⟨#[]⟩, .int .i64 0]), 11, 112) := by kernel_rfl
  obtain ⟨i0, hi0, hz0, hz1, hz2⟩ := info_parts i0
  have HB := Sh.mk (And.intro hb1 hbx)
  clear c0 c1 f0 f1 d2 d3 x3 hb hb1 hbx
  go_wp2_with fail
  refine wp_region_noPanic ?_
  refine wpN_begin 19 (fun W => (Blk W p 63 [.int .i64 gsn, .int .i64 s, .map (some bn), .map (some bo)] ∧ Blk W w.heap.size 69 [.int .i64 s, .int .i64 2, .int .i64 gsn, .int .i64 txn, .int .i64 prev, .int .i64 page, .string key, .bool bef.has, .string bef.s, .bool aft.has, .string aft.s, .int .i64 undo]) ∧ MapIV Try.prog 3 W bo B O) (by kernel_rfl) ?_
  have hS : (fun W => (Blk W p 63 [.int .i64 gsn, .int .i64 s, .map (some bn), .map (some bo)] ∧ Blk W w.heap.size 69 [.int .i64 s, .int .i64 2, .int .i64 gsn, .int .i64 txn, .int .i64 prev, .int .i64 page, .string key, .bool bef.has, .string bef.s, .bool aft.has, .string aft.s, .int .i64 undo]) ∧ MapIV Try.prog 3 W bo B O) wr.drew := ⟨HB.out, HO.out.below (bl_drew (Below.refl _ _))⟩
  refine wpN_take (i := 0) (v := ?_) rfl rfl (by kernel_rfl) (by kernel_rfl) (by kernel_rfl) (by kernel_rfl) (fun _ _ _ h => h) (Or.inl ⟨by rfl, ?hy⟩) hS ?_
  case hy =>
    intro W hW
    skip
    go_simp
    try with_reducible rfl
  (try simp only [Act.put]); (try simp only [List.setIfInBounds_toArray]); (try simp only [List.set_cons_succ]); (try simp only [List.set_cons_zero])
  refine wpN_take (i := 1) (v := ?_) rfl rfl (by kernel_rfl) (by kernel_rfl) (by kernel_rfl) (by kernel_rfl) (fun _ _ _ h => h) (Or.inl ⟨by rfl, ?hy⟩) hS ?_
  case hy =>
    intro W hW
    skip
    go_simp
    try with_reducible rfl
  (try simp only [Act.put]); (try simp only [List.setIfInBounds_toArray]); (try simp only [List.set_cons_succ]); (try simp only [List.set_cons_zero])
  refine wpN_take (i := 2) (v := ?_) rfl rfl (by kernel_rfl) (by kernel_rfl) (by kernel_rfl) (by kernel_rfl) (fun _ _ _ h => h) (Or.inl ⟨by rfl, ?hy⟩) hS ?_
  case hy =>
    intro W hW
    skip
    go_simp
    try with_reducible rfl
  (try simp only [Act.put]); (try simp only [List.setIfInBounds_toArray]); (try simp only [List.set_cons_succ]); (try simp only [List.set_cons_zero])
  refine wpN_take (i := 3) (v := ?_) rfl rfl (by kernel_rfl) (by kernel_rfl) (by kernel_rfl) (by kernel_rfl) (fun _ _ _ h => h) (Or.inl ⟨by rfl, ?hy⟩) hS ?_
  case hy =>
    intro W hW
    have y := hW.1.1.cell 3
    go_simp
    try with_reducible rfl
  (try simp only [Act.put]); (try simp only [List.setIfInBounds_toArray]); (try simp only [List.set_cons_succ]); (try simp only [List.set_cons_zero])
  refine wpN_take (i := 4) (v := ?_) rfl rfl (by kernel_rfl) (by kernel_rfl) (by kernel_rfl) (by kernel_rfl) (fun _ _ _ h => h) (Or.inl ⟨by rfl, ?hy⟩) hS ?_
  case hy =>
    intro W hW
    skip
    go_simp
    try with_reducible rfl
  (try simp only [Act.put]); (try simp only [List.setIfInBounds_toArray]); (try simp only [List.set_cons_succ]); (try simp only [List.set_cons_zero])
  refine wpN_take (i := 5) (v := ?_) rfl rfl (by kernel_rfl) (by kernel_rfl) (by kernel_rfl) (by kernel_rfl) (fun _ _ _ h => h) (Or.inl ⟨by rfl, ?hy⟩) hS ?_
  case hy =>
    intro W hW
    skip
    go_simp
    try with_reducible rfl
  (try simp only [Act.put]); (try simp only [List.setIfInBounds_toArray]); (try simp only [List.set_cons_succ]); (try simp only [List.set_cons_zero])
  refine wpN_take (i := 6) (v := ?_) rfl rfl (by kernel_rfl) (by kernel_rfl) (by kernel_rfl) (by kernel_rfl) (fun _ _ _ h => h) (Or.inl ⟨by rfl, ?hy⟩) hS ?_
  case hy =>
    intro W hW
    have y := hW.1.2.cell 3
    go_simp
    try with_reducible rfl
  (try simp only [Act.put]); (try simp only [List.setIfInBounds_toArray]); (try simp only [List.set_cons_succ]); (try simp only [List.set_cons_zero])
  refine wpN_take (i := 7) (v := ?_) rfl rfl (by kernel_rfl) (by kernel_rfl) (by kernel_rfl) (by kernel_rfl) (fun _ _ _ h => h) (Or.inl ⟨by rfl, ?hy⟩) hS ?_
  case hy =>
    intro W hW
    skip
    go_simp
    try with_reducible rfl
  (try simp only [Act.put]); (try simp only [List.setIfInBounds_toArray]); (try simp only [List.set_cons_succ]); (try simp only [List.set_cons_zero])
  refine wpN_take (i := 8) (v := ?_) rfl rfl (by kernel_rfl) (by kernel_rfl) (by kernel_rfl) (by kernel_rfl) (fun _ _ _ h => h) (Or.inl ⟨by rfl, ?hy⟩) hS ?_
  case hy =>
    intro W hW
    skip
    go_simp
    try with_reducible rfl
  (try simp only [Act.put]); (try simp only [List.setIfInBounds_toArray]); (try simp only [List.set_cons_succ]); (try simp only [List.set_cons_zero])
  refine wpN_take (i := 9) (v := ?_) rfl rfl (by kernel_rfl) (by kernel_rfl) (by kernel_rfl) (by kernel_rfl) (fun _ _ _ h => h) (Or.inl ⟨by rfl, ?hy⟩) hS ?_
  case hy =>
    intro W hW
    skip
    go_simp
    try with_reducible rfl
  (try simp only [Act.put]); (try simp only [List.setIfInBounds_toArray]); (try simp only [List.set_cons_succ]); (try simp only [List.set_cons_zero])
  refine wpN_take (i := 10) (v := ?_) rfl rfl (by kernel_rfl) (by kernel_rfl) (by kernel_rfl) (by kernel_rfl) (fun _ _ _ h => h) (Or.inl ⟨by rfl, ?hy⟩) hS ?_
  case hy =>
    intro W hW
    have y := hW.1.1.cell 3
    go_simp
    try with_reducible rfl
  (try simp only [Act.put]); (try simp only [List.setIfInBounds_toArray]); (try simp only [List.set_cons_succ]); (try simp only [List.set_cons_zero])
  refine wpN_take (i := 11) (v := ?_) rfl rfl (by kernel_rfl) (by kernel_rfl) (by kernel_rfl) (by kernel_rfl) (fun _ _ _ h => h) (Or.inl ⟨by rfl, ?hy⟩) hS ?_
  case hy =>
    intro W hW
    skip
    go_simp
    try with_reducible rfl
  (try simp only [Act.put]); (try simp only [List.setIfInBounds_toArray]); (try simp only [List.set_cons_succ]); (try simp only [List.set_cons_zero])
  refine wpN_take (i := 12) (v := ?_) rfl rfl (by kernel_rfl) (by kernel_rfl) (by kernel_rfl) (by kernel_rfl) (fun _ _ _ h => h) (Or.inl ⟨by rfl, ?hy⟩) hS ?_
  case hy =>
    intro W hW
    skip
    go_simp
    try with_reducible rfl
  (try simp only [Act.put]); (try simp only [List.setIfInBounds_toArray]); (try simp only [List.set_cons_succ]); (try simp only [List.set_cons_zero])
  refine wpN_take (i := 13) (v := ?_) rfl rfl (by kernel_rfl) (by kernel_rfl) (by kernel_rfl) (by kernel_rfl) (fun _ _ _ h => h) (Or.inl ⟨by rfl, ?hy⟩) hS ?_
  case hy =>
    intro W hW
    have y := hW.1.2.cell 3
    go_simp
    try with_reducible rfl
  (try simp only [Act.put]); (try simp only [List.setIfInBounds_toArray]); (try simp only [List.set_cons_succ]); (try simp only [List.set_cons_zero])
  refine wpN_take (i := 14) (v := ?_) rfl rfl (by kernel_rfl) (by kernel_rfl) (by kernel_rfl) (by kernel_rfl) (fun _ _ _ h => h) (Or.inl ⟨by rfl, ?hy⟩) hS ?_
  case hy =>
    intro W hW
    have y := HL.out W hW.2
    go_simp
    try with_reducible rfl
  (try simp only [Act.put]); (try simp only [List.setIfInBounds_toArray]); (try simp only [List.set_cons_succ]); (try simp only [List.set_cons_zero])
  refine wpN_take (i := 15) (v := ?_) rfl rfl (by kernel_rfl) (by kernel_rfl) (by kernel_rfl) (by kernel_rfl) (fun _ _ _ h => h) (Or.inl ⟨by rfl, ?hy⟩) hS ?_
  case hy =>
    intro W hW
    skip
    go_simp
    try with_reducible rfl
  (try simp only [Act.put]); (try simp only [List.setIfInBounds_toArray]); (try simp only [List.set_cons_succ]); (try simp only [List.set_cons_zero])
  refine wpN_take (i := 16) (v := ?_) rfl rfl (by kernel_rfl) (by kernel_rfl) (by kernel_rfl) (by kernel_rfl) (fun _ _ _ h => h) (Or.inl ⟨by rfl, ?hy⟩) hS ?_
  case hy =>
    intro W hW
    have y1 := hW.1.2.cell 1; have y2 := hW.1.2.cell 2; have y3 := hW.1.2.cell 3; have y4 := hW.1.2.cell 4; have y5 := hW.1.2.cell 5; have y6 := hW.1.2.cell 6; have y7 := hW.1.2.cell 7; have y8 := hW.1.2.cell 8; have y9 := hW.1.2.cell 9; have y10 := hW.1.2.cell 10; have y11 := hW.1.2.cell 11
    go_simp
    try with_reducible rfl
  (try simp only [Act.put]); (try simp only [List.setIfInBounds_toArray]); (try simp only [List.set_cons_succ]); (try simp only [List.set_cons_zero])
  refine wpN_only (i := 17) rfl (by kernel_rfl) (fun K hK => ?_)
  go_simp
  refine hK.out _ _ (.inr ⟨⟨(HB.out.1.alloc _).drew, (HB.out.2.alloc _).drew⟩, HO.out.below (bl_drew (bl_alloc (Below.refl _ _) _))⟩) ?_
  clear hK K
  (try simp only [Act.put]); (try simp only [List.setIfInBounds_toArray]); (try simp only [List.set_cons_succ]); (try simp only [List.set_cons_zero])
  have hA : Chg (fun _ => False) wr (wr.alloc (.cells #[.int .i64 2, .int .i64 gsn, .int .i64 txn, .int .i64 prev, .int .i64 page, .string key, .bool bef.has, .string bef.s, .bool aft.has, .string aft.s, .int .i64 undo] 31)).drew := (Chg.of_below (bl_alloc (Below.refl _ _) _)).drew
  have hoA := Sh.mk (hrow1.chg hA (fun _ _ h => h))
  refine wpN_only (i := 18) rfl (by kernel_rfl) (fun K hK => ?_)
  refine step_append_lies _ (by rfl) _ _ _ (by rfl) 0 31 i0 _ 11 112 Try.underlying35 hi0 hz0 hz1 hz2 rfl (by omega) ov rs.length (rs.flatMap encRec) (by rfl) hoA.out
          ⟨wr.heap.size, 0, none⟩ 1 1 [.int .i64 2, .int .i64 gsn, .int .i64 txn, .int .i64 prev, .int .i64 page, .string key, .bool bef.has, .string bef.s, .bool aft.has, .string aft.s, .int .i64 undo] (by rfl) (by rfl) (World.news_of_block (cs := #[.int .i64 2, .int .i64 gsn, .int .i64 txn, .int .i64 prev, .int .i64 page, .string key, .bool bef.has, .string bef.s, .bool aft.has, .string aft.s, .int .i64 undo]) (t := 31) (fr := (0, 0)) (heap_alloc_new wr _)) (by simp [Value.oneCell'])
          (by omega) (by unfold maxLen; omega) (by omega) (Nat.zero_le _) (wr.heap.size + 1) (by simp) ?_
  intro gg cap w1 hown1 hgrow hat hlt1
  have hg := (hA.mono (G := fun k => some k = ov.ownBlock) (fun _ _ h => h.elim)).trans (Chg.of_grown hgrow) (fun _ _ h => h)
  have hb2 := HB.out.1.chg hg (fun e => (hro p e.symm).1 rfl)
  have hx2 := HB.out.2.chg hg (fun e => by have := (hrow.lt _ e.symm).2; omega)
  have hm2 := HO.out.chg hg (fun e => (hro bo e.symm).2 rfl)
  refine hK.out _ _ (.inr ⟨⟨hb2, hx2⟩, hm2⟩) ?_
  clear hK K
  (try simp only [Act.put]); (try simp only [List.setIfInBounds_toArray]); (try simp only [List.set_cons_succ]); (try simp only [List.set_cons_zero])
  obtain ⟨w2, hrun2, hmap2, hc2⟩ := hm2.put_run Try.underlying3 Try.underlying61 hn txn (.slice (some ⟨gg, 0, none⟩) (rs.length + 1) cap) hwx
  refine wpN_only (i := 19) rfl (by kernel_rfl) (fun K hK => ?_)
  go_simp
  refine hK.out _ _ (.inl rfl) ?_
  clear hK K
  refine wpN_done (by kernel_rfl) ?_ _
  refine NoPanic.normal ?_
  go_wp2_with fail
  go_end0
  have hgne : ¬ gg = bo := by
    rcases hat with h | h
    · exact (hro gg h).2
    · omega
  have hsz := hch.size
  have hOw : Own encRec 31 11 w1 0 (.slice (some ⟨gg, 0, none⟩) (rs.length + 1) cap) (rs ++ [(⟨2, gsn, txn, prev, page, key, bef, aft, undo⟩ : RC)]) := Own.append (by simpa [encRec] using hown1)
  have hob : (Value.slice (some ⟨gg, 0, none⟩) (rs.length + 1) cap).ownBlock = some gg := rfl
  refine ⟨rfl, hb2.chg hc2 (Ne.symm hp), _, hmap2, hOw.chg hc2 (fun k hk e => hgne (by rw [hob] at hk; injection hk with hk; rw [hk, e])), ?_, ?_⟩
  · rcases hat with h | h
    · exact .inl (by rw [hob, h])
    · exact .inr ⟨gg, hob, by omega⟩
  · refine Chg.trans (F := fun k => k = p ∨ k = bo ∨ some k = ov.ownBlock) (hch.mono fun _ _ h => .inl h) (Chg.trans (F := fun k => k = bo ∨ some k = ov.ownBlock) (hg.mono fun _ _ h => .inr h) hc2 fun _ _ h => .inl h) (fun _ _ h => .inr h)

set_option maxHeartbeats 2000000 in
set_option maxRecDepth 100000 in
theorem take3_calls (p bn bo B : Nat) (g0 t0 : Int) (O : Int → Option Value) (x : BR) (w : World) (hk : x.r.kind = 3)
    (hb : Blk w p 63 [.int .i64 g0, .int .i64 t0, .map (some bn), .map (some bo)]) (hp : ¬ bo = p) (hwx : (Lit.int .i64 x.r.txn).wf = true)
    (hown : MapIV Try.prog 3 w bo B O) (hn : B < maxLen) (ov : Value) (rs : List RC) (hov : (O x.r.txn).getD (.slice none 0 0) = ov) (hrow : Own encRec 31 11 w 0 ov rs) (hro : ∀ k, ov.ownBlock = some k → k ≠ p ∧ k ≠ bo) (hlen : rs.length + 1 ≤ 1000000000) :
    Calls Try.prog 24 #[.pointer (some ⟨p, 0, none⟩), .agg (encBR x).toArray] w fun e w' => ∃ ov' : Value, e = .returned (.tuple #[]) ∧ Blk w' p 63 [.int .i64 x.r.gsn, .int .i64 x.stream, .map (some bn), .map (some bo)] ∧ MapIV Try.prog 3 w' bo (B + 1) (updI O x.r.txn (some ov')) ∧ Own encRec 31 11 w' 0 ov' (rs ++ [x.r]) ∧ (ov'.ownBlock = ov.ownBlock ∨ ∃ k, ov'.ownBlock = some k ∧ w.heap.size ≤ k) ∧ Chg (fun k => k = p ∨ k = bo ∨ some k = ov.ownBlock) w w' := by
  have hpl := hb.lt
  have n1 : ¬ p = w.heap.size := by omega
  have n2 : ¬ w.heap.size = p := by omega
  have c0 : w.cell? ⟨p, 0, none⟩ = some (.int .i64 g0) := hb.cell 0
  have c1 : w.cell? ⟨p, 1, none⟩ = some (.int .i64 t0) := hb.cell 1
  have f0 := hb.frozen 0
  have f1 := hb.frozen 1
  obtain ⟨s, kind, gsn, txn, prev, page, key, bef, aft, undo⟩ := x
  dsimp only at hk ⊢
  subst hk
  show Calls _ _ #[_, .agg #[.int .i64 s, .int .i64 3, .int .i64 gsn, .int .i64 txn, .int .i64 prev, .int .i64 page, .string key, .bool bef.has, .string bef.s, .bool aft.has, .string aft.s, .int .i64 undo]] _ _
  go_enter Try.func24, Try.ntmps24
  go_wp2_with fail
  refine wp_gen (fun wr => Blk wr p 63 [.int .i64 gsn, .int .i64 s, .map (some bn), .map (some bo)] ∧ Blk wr w.heap.size 69 [.int .i64 s, .int .i64 3, .int .i64 gsn, .int .i64 txn, .int .i64 prev, .int .i64 page, .string key, .bool bef.has, .string bef.s, .bool aft.has, .string aft.s, .int .i64 undo] ∧ Chg (fun k => k = p) w wr) ⟨?_, ?_, ?_⟩ ?_
  · exact ((hb.set 0 _).set 1 _).alloc _
  · exact Blk.new' (by simp)
  · refine Chg.alloc (Chg.setCell (Chg.setCell (Chg.refl _ w) ?_ _) ?_ _) _ <;> rfl
  rintro wr ⟨hb1, hbx, hch⟩
  have d2 : wr.cell? ⟨p, 2, none⟩ = some (.map (some bn)) := hb1.cell 2
  have d3 : wr.cell? ⟨p, 3, none⟩ = some (.map (some bo)) := hb1.cell 3
  have x3 : wr.cell? ⟨w.heap.size, 3, none⟩ = some (.int .i64 txn) := hbx.cell 3
  change (Lit.int .i64 txn).wf = true at hwx
  change (O txn).getD (.slice none 0 0) = ov at hov
  have hown1 := hown.chg hch hp
  have hrow1 := hrow.chg hch (fun k hk => (hro k hk).1)
  have hlt : w.heap.size < wr.heap.size := hbx.lt
  have hpr : p < wr.heap.size := hb1.lt
  have hor : bo < wr.heap.size := hown1.lt
  have hzs : ∀ W, (zeroValue 35).run Try.prog W = .ok (.slice none 0 0) W := zeroRecs
  have HO := Sh.mk hown1
  have hl0 : ∀ W, MapIV Try.prog 3 W bo B O → (Instr.lookup 61 (.map (some bo)) (.int .i64 txn) false).run Try.prog W = .ok ov W := fun W h => hov ▸ (h.look Try.underlying3 Try.underlying61 (hzs W) txn hwx).2
  have HL := Sh.mk hl0
  clear hown1 hov hown hl0 hzs
  have i0 : (Try.prog.info? 31).map (fun i => (i.zero, i.size, i.bytes)) = some (some (.agg #[.int .i64 0, .int .i64 0, .int .i64 0, .int .i64 0, .int .i64 0, .string ⟨#[]⟩, .bool false, .string ⟨#[]⟩, .bool false, .string ⟨#[]⟩, .int .i64 0]), 11, 112) := by kernel_rfl
  obtain ⟨i0, hi0, hz0, hz1, hz2⟩ := info_parts i0
  have HB := Sh.mk (And.intro hb1 hbx)
  clear c0 c1 f0 f1 d2 d3 x3 hb hb1 hbx
  go_wp2_with fail
  refine wp_region_noPanic ?_
  refine wpN_begin 19 (fun W => (Blk W p 63 [.int .i64 gsn, .int .i64 s, .map (some bn), .map (some bo)] ∧ Blk W w.heap.size 69 [.int .i64 s, .int .i64 3, .int .i64 gsn, .int .i64 txn, .int .i64 prev, .int .i64 page, .string key, .bool bef.has, .string bef.s, .bool aft.has, .string aft.s, .int .i64 undo]) ∧ MapIV Try.prog 3 W bo B O) (by kernel_rfl) ?_
  have hS : (fun W => (Blk W p 63 [.int .i64 gsn, .int .i64 s, .map (some bn), .map (some bo)] ∧ Blk W w.heap.size 69 [.int .i64 s, .int .i64 3, .int .i64 gsn, .int .i64 txn, .int .i64 prev, .int .i64 page, .string key, .bool bef.has, .string bef.s, .bool aft.has, .string aft.s, .int .i64 undo]) ∧ MapIV Try.prog 3 W bo B O) wr.drew := ⟨HB.out, HO.out.below (bl_drew (Below.refl _ _))⟩
  refine wpN_take (i := 0) (v := ?_) rfl rfl (by kernel_rfl) (by kernel_rfl) (by kernel_rfl) (by kernel_rfl) (fun _ _ _ h => h) (Or.inl ⟨by rfl, ?hy⟩) hS ?_
  case hy =>
    intro W hW
    skip
    go_simp
    try with_reducible rfl
  (try simp only [Act.put]); (try simp only [List.setIfInBounds_toArray]); (try simp only [List.set_cons_succ]); (try simp only [List.set_cons_zero])
  refine wpN_take (i := 1) (v := ?_) rfl rfl (by kernel_rfl) (by kernel_rfl) (by kernel_rfl) (by kernel_rfl) (fun _ _ _ h => h) (Or.inl ⟨by rfl, ?hy⟩) hS ?_
  case hy =>
    intro W hW
    skip
    go_simp
    try with_reducible rfl
  (try simp only [Act.put]); (try simp only [List.setIfInBounds_toArray]); (try simp only [List.set_cons_succ]); (try simp only [List.set_cons_zero])
  refine wpN_take (i := 2) (v := ?_) rfl rfl (by kernel_rfl) (by kernel_rfl) (by kernel_rfl) (by kernel_rfl) (fun _ _ _ h => h) (Or.inl ⟨by rfl, ?hy⟩) hS ?_
  case hy =>
    intro W hW
    skip
    go_simp
    try with_reducible rfl
  (try simp only [Act.put]); (try simp only [List.setIfInBounds_toArray]); (try simp only [List.set_cons_succ]); (try simp only [List.set_cons_zero])
  refine wpN_take (i := 3) (v := ?_) rfl rfl (by kernel_rfl) (by kernel_rfl) (by kernel_rfl) (by kernel_rfl) (fun _ _ _ h => h) (Or.inl ⟨by rfl, ?hy⟩) hS ?_
  case hy =>
    intro W hW
    have y := hW.1.1.cell 3
    go_simp
    try with_reducible rfl
  (try simp only [Act.put]); (try simp only [List.setIfInBounds_toArray]); (try simp only [List.set_cons_succ]); (try simp only [List.set_cons_zero])
  refine wpN_take (i := 4) (v := ?_) rfl rfl (by kernel_rfl) (by kernel_rfl) (by kernel_rfl) (by kernel_rfl) (fun _ _ _ h => h) (Or.inl ⟨by rfl, ?hy⟩) hS ?_
  case hy =>
    intro W hW
    skip
    go_simp
    try with_reducible rfl
  (try simp only [Act.put]); (try simp only [List.setIfInBounds_toArray]); (try simp only [List.set_cons_succ]); (try simp only [List.set_cons_zero])
  refine wpN_take (i := 5) (v := ?_) rfl rfl (by kernel_rfl) (by kernel_rfl) (by kernel_rfl) (by kernel_rfl) (fun _ _ _ h => h) (Or.inl ⟨by rfl, ?hy⟩) hS ?_
  case hy =>
    intro W hW
    skip
    go_simp
    try with_reducible rfl
  (try simp only [Act.put]); (try simp only [List.setIfInBounds_toArray]); (try simp only [List.set_cons_succ]); (try simp only [List.set_cons_zero])
  refine wpN_take (i := 6) (v := ?_) rfl rfl (by kernel_rfl) (by kernel_rfl) (by kernel_rfl) (by kernel_rfl) (fun _ _ _ h => h) (Or.inl ⟨by rfl, ?hy⟩) hS ?_
  case hy =>
    intro W hW
    have y := hW.1.2.cell 3
    go_simp
    try with_reducible rfl
  (try simp only [Act.put]); (try simp only [List.setIfInBounds_toArray]); (try simp only [List.set_cons_succ]); (try simp only [List.set_cons_zero])
  refine wpN_take (i := 7) (v := ?_) rfl rfl (by kernel_rfl) (by kernel_rfl) (by kernel_rfl) (by kernel_rfl) (fun _ _ _ h => h) (Or.inl ⟨by rfl, ?hy⟩) hS ?_
  case hy =>
    intro W hW
    skip
    go_simp
    try with_reducible rfl
  (try simp only [Act.put]); (try simp only [List.setIfInBounds_toArray]); (try simp only [List.set_cons_succ]); (try simp only [List.set_cons_zero])
  refine wpN_take (i := 8) (v := ?_) rfl rfl (by kernel_rfl) (by kernel_rfl) (by kernel_rfl) (by kernel_rfl) (fun _ _ _ h => h) (Or.inl ⟨by rfl, ?hy⟩) hS ?_
  case hy =>
    intro W hW
    skip
    go_simp
    try with_reducible rfl
  (try simp only [Act.put]); (try simp only [List.setIfInBounds_toArray]); (try simp only [List.set_cons_succ]); (try simp only [List.set_cons_zero])
  refine wpN_take (i := 9) (v := ?_) rfl rfl (by kernel_rfl) (by kernel_rfl) (by kernel_rfl) (by kernel_rfl) (fun _ _ _ h => h) (Or.inl ⟨by rfl, ?hy⟩) hS ?_
  case hy =>
    intro W hW
    skip
    go_simp
    try with_reducible rfl
  (try simp only [Act.put]); (try simp only [List.setIfInBounds_toArray]); (try simp only [List.set_cons_succ]); (try simp only [List.set_cons_zero])
  refine wpN_take (i := 10) (v := ?_) rfl rfl (by kernel_rfl) (by kernel_rfl) (by kernel_rfl) (by kernel_rfl) (fun _ _ _ h => h) (Or.inl ⟨by rfl, ?hy⟩) hS ?_
  case hy =>
    intro W hW
    have y := hW.1.1.cell 3
    go_simp
    try with_reducible rfl
  (try simp only [Act.put]); (try simp only [List.setIfInBounds_toArray]); (try simp only [List.set_cons_succ]); (try simp only [List.set_cons_zero])
  refine wpN_take (i := 11) (v := ?_) rfl rfl (by kernel_rfl) (by kernel_rfl) (by kernel_rfl) (by kernel_rfl) (fun _ _ _ h => h) (Or.inl ⟨by rfl, ?hy⟩) hS ?_
  case hy =>
    intro W hW
    skip
    go_simp
    try with_reducible rfl
  (try simp only [Act.put]); (try simp only [List.setIfInBounds_toArray]); (try simp only [List.set_cons_succ]); (try simp only [List.set_cons_zero])
  refine wpN_take (i := 12) (v := ?_) rfl rfl (by kernel_rfl) (by kernel_rfl) (by kernel_rfl) (by kernel_rfl) (fun _ _ _ h => h) (Or.inl ⟨by rfl, ?hy⟩) hS ?_
  case hy =>
    intro W hW
    skip
    go_simp
    try with_reducible rfl
  (try simp only [Act.put]); (try simp only [List.setIfInBounds_toArray]); (try simp only [List.set_cons_succ]); (try simp only [List.set_cons_zero])
  refine wpN_take (i := 13) (v := ?_) rfl rfl (by kernel_rfl) (by kernel_rfl) (by kernel_rfl) (by kernel_rfl) (fun _ _ _ h => h) (Or.inl ⟨by rfl, ?hy⟩) hS ?_
  case hy =>
    intro W hW
    have y := hW.1.2.cell 3
    go_simp
    try with_reducible rfl
  (try simp only [Act.put]); (try simp only [List.setIfInBounds_toArray]); (try simp only [List.set_cons_succ]); (try simp only [List.set_cons_zero])
  refine wpN_take (i := 14) (v := ?_) rfl rfl (by kernel_rfl) (by kernel_rfl) (by kernel_rfl) (by kernel_rfl) (fun _ _ _ h => h) (Or.inl ⟨by rfl, ?hy⟩) hS ?_
  case hy =>
    intro W hW
    have y := HL.out W hW.2
    go_simp
    try with_reducible rfl
  (try simp only [Act.put]); (try simp only [List.setIfInBounds_toArray]); (try simp only [List.set_cons_succ]); (try simp only [List.set_cons_zero])
  refine wpN_take (i := 15) (v := ?_) rfl rfl (by kernel_rfl) (by kernel_rfl) (by kernel_rfl) (by kernel_rfl) (fun _ _ _ h => h) (Or.inl ⟨by rfl, ?hy⟩) hS ?_
  case hy =>
    intro W hW
    skip
    go_simp
    try with_reducible rfl
  (try simp only [Act.put]); (try simp only [List.setIfInBounds_toArray]); (try simp only [List.set_cons_succ]); (try simp only [List.set_cons_zero])
  refine wpN_take (i := 16) (v := ?_) rfl rfl (by kernel_rfl) (by kernel_rfl) (by kernel_rfl) (by kernel_rfl) (fun _ _ _ h => h) (Or.inl ⟨by rfl, ?hy⟩) hS ?_
  case hy =>
    intro W hW
    have y1 := hW.1.2.cell 1; have y2 := hW.1.2.cell 2; have y3 := hW.1.2.cell 3; have y4 := hW.1.2.cell 4; have y5 := hW.1.2.cell 5; have y6 := hW.1.2.cell 6; have y7 := hW.1.2.cell 7; have y8 := hW.1.2.cell 8; have y9 := hW.1.2.cell 9; have y10 := hW.1.2.cell 10; have y11 := hW.1.2.cell 11
    go_simp
    try with_reducible rfl
  (try simp only [Act.put]); (try simp only [List.setIfInBounds_toArray]); (try simp only [List.set_cons_succ]); (try simp only [List.set_cons_zero])
  refine wpN_only (i := 17) rfl (by kernel_rfl) (fun K hK => ?_)
  go_simp
  refine hK.out _ _ (.inr ⟨⟨(HB.out.1.alloc _).drew, (HB.out.2.alloc _).drew⟩, HO.out.below (bl_drew (bl_alloc (Below.refl _ _) _))⟩) ?_
  clear hK K
  (try simp only [Act.put]); (try simp only [List.setIfInBounds_toArray]); (try simp only [List.set_cons_succ]); (try simp only [List.set_cons_zero])
  have hA : Chg (fun _ => False) wr (wr.alloc (.cells #[.int .i64 3, .int .i64 gsn, .int .i64 txn, .int .i64 prev, .int .i64 page, .string key, .bool bef.has, .string bef.s, .bool aft.has, .string aft.s, .int .i64 undo] 31)).drew := (Chg.of_below (bl_alloc (Below.refl _ _) _)).drew
  have hoA := Sh.mk (hrow1.chg hA (fun _ _ h => h))
  refine wpN_only (i := 18) rfl (by kernel_rfl) (fun K hK => ?_)
  refine step_append_lies _ (by rfl) _ _ _ (by rfl) 0 31 i0 _ 11 112 Try.underlying35 hi0 hz0 hz1 hz2 rfl (by omega) ov rs.length (rs.flatMap encRec) (by rfl) hoA.out
          ⟨wr.heap.size, 0, none⟩ 1 1 [.int .i64 3, .int .i64 gsn, .int .i64 txn, .int .i64 prev, .int .i64 page, .string key, .bool bef.has, .string bef.s, .bool aft.has, .string aft.s, .int .i64 undo] (by rfl) (by rfl) (World.news_of_block (cs := #[.int .i64 3, .int .i64 gsn, .int .i64 txn, .int .i64 prev, .int .i64 page, .string key, .bool bef.has, .string bef.s, .bool aft.has, .string aft.s, .int .i64 undo]) (t := 31) (fr := (0, 0)) (heap_alloc_new wr _)) (by simp [Value.oneCell'])
          (by omega) (by unfold maxLen; omega) (by omega) (Nat.zero_le _) (wr.heap.size + 1) (by simp) ?_
  intro gg cap w1 hown1 hgrow hat hlt1
  have hg := (hA.mono (G := fun k => some k = ov.ownBlock) (fun _ _ h => h.elim)).trans (Chg.of_grown hgrow) (fun _ _ h => h)
  have hb2 := HB.out.1.chg hg (fun e => (hro p e.symm).1 rfl)
  have hx2 := HB.out.2.chg hg (fun e => by have := (hrow.lt _ e.symm).2; omega)
  have hm2 := HO.out.chg hg (fun e => (hro bo e.symm).2 rfl)
  refine hK.out _ _ (.inr ⟨⟨hb2, hx2⟩, hm2⟩) ?_
  clear hK K
  (try simp only [Act.put]); (try simp only [List.setIfInBounds_toArray]); (try simp only [List.set_cons_succ]); (try simp only [List.set_cons_zero])
  obtain ⟨w2, hrun2, hmap2, hc2⟩ := hm2.put_run Try.underlying3 Try.underlying61 hn txn (.slice (some ⟨gg, 0, none⟩) (rs.length + 1) cap) hwx
  refine wpN_only (i := 19) rfl (by kernel_rfl) (fun K hK => ?_)
  go_simp
  refine hK.out _ _ (.inl rfl) ?_
  clear hK K
  refine wpN_done (by kernel_rfl) ?_ _
  refine NoPanic.normal ?_
  go_wp2_with fail
  go_end0
  have hgne : ¬ gg = bo := by
    rcases hat with h | h
    · exact (hro gg h).2
    · omega
  have hsz := hch.size
  have hOw : Own encRec 31 11 w1 0 (.slice (some ⟨gg, 0, none⟩) (rs.length + 1) cap) (rs ++ [(⟨3, gsn, txn, prev, page, key, bef, aft, undo⟩ : RC)]) := Own.append (by simpa [encRec] using hown1)
  have hob : (Value.slice (some ⟨gg, 0, none⟩) (rs.length + 1) cap).ownBlock = some gg := rfl
  refine ⟨rfl, hb2.chg hc2 (Ne.symm hp), _, hmap2, hOw.chg hc2 (fun k hk e => hgne (by rw [hob] at hk; injection hk with hk; rw [hk, e])), ?_, ?_⟩
  · rcases hat with h | h
    · exact .inl (by rw [hob, h])
    · exact .inr ⟨gg, hob, by omega⟩
  · refine Chg.trans (F := fun k => k = p ∨ k = bo ∨ some k = ov.ownBlock) (hch.mono fun _ _ h => .inl h) (Chg.trans (F := fun k => k = bo ∨ some k = ov.ownBlock) (hg.mono fun _ _ h => .inr h) hc2 fun _ _ h => .inl h) (fun _ _ h => .inr h)

def commit1 (m : ByteArray → Option ByteArray) (r : RC) : ByteArray → Option ByteArray := if r.aft.has = true then updS (updS m r.key none) r.key (some r.aft.s) else updS m r.key none
def commitF (m : ByteArray → Option ByteArray) (rs : List RC) : ByteArray → Option ByteArray := rs.foldl commit1 m
theorem commitF_succ (m : ByteArray → Option ByteArray) (rs : List RC) (k : Nat) (h : k < rs.length) : commitF m (rs.take (k + 1)) = commit1 (commitF m (rs.take k)) rs[k] := by
  unfold commitF
  rw [List.take_succ_eq_append_getElem h, List.foldl_append]
  rfl
theorem commit_step {m : ByteArray → Option ByteArray} {rs : List RC} {k : Nat} {x : RC} (hx : x = rs[k]?.getD x) (h : k < rs.length) (hh : x.aft.has = true) : updS (updS (commitF m (rs.take k)) x.key none) x.key (some x.aft.s) = commitF m (rs.take (k + 1)) := by
  rw [commitF_succ m rs k h]
  have : x = rs[k] := by rw [hx]; simp [h]
  subst this
  simp [commit1, hh]
theorem commit_step' {m : ByteArray → Option ByteArray} {rs : List RC} {k : Nat} {x : RC} (hx : x = rs[k]?.getD x) (h : k < rs.length) (hh : x.aft.has = false) : updS (commitF m (rs.take k)) x.key none = commitF m (rs.take (k + 1)) := by
  rw [commitF_succ m rs k h]
  have : x = rs[k] := by rw [hx]; simp [h]
  subst this
  simp [commit1, hh]

set_option maxHeartbeats 2000000 in
set_option maxRecDepth 100000 in
theorem commit_calls (p bn bo B : Nat) (g0 t0 : Int) (m : ByteArray → Option ByteArray) (O : Int → Option Value) (id : Int) (rs : List RC) (ov : Value) (Bo : Nat) (w : World)
    (hb : Blk w p 63 [.int .i64 g0, .int .i64 t0, .map (some bn), .map (some bo)]) (hm : MapSS Try.prog 9 9 w bn B m) (hB : B + rs.length < maxLen) (ho : MapIV Try.prog 3 w bo Bo O) (hnp : ¬ bn = p)
    (hwx : (Lit.int .i64 id).wf = true) (hov : (O id).getD (.slice none 0 0) = ov) (hrow : Own encRec 31 11 w 0 ov rs) (hro : ∀ k, ov.ownBlock = some k → k ≠ bn) (hks : ∀ r ∈ rs, r.key.size ≤ maxLen ∧ r.aft.s.size ≤ maxLen) :
    Calls Try.prog 34 #[.pointer (some ⟨p, 0, none⟩), .int .i64 id] w fun e w' => e = .returned (.tuple #[]) ∧ MapSS Try.prog 9 9 w' bn (B + rs.length) (commitF m rs) ∧ Chg (fun k => k = bn) w w' := by
  have c3 : w.cell? ⟨p, 3, none⟩ = some (.map (some bo)) := hb.cell 3
  have hl := (ho.look Try.underlying3 Try.underlying61 (zeroRecs w) id hwx).2
  rw [hov] at hl
  obtain ⟨A, c, hv, hc1, hc2, _⟩ := hrow.reads (fun _ => rfl)
  rw [hv] at hl
  have HRW := Sh.mk (hv ▸ hrow)
  have HRO := Sh.mk (hv ▸ hro)
  have HKS := Sh.mk hks
  have HB0 := Sh.mk hb
  have HM0 := Sh.mk hm
  have HN := Sh.mk hnp
  have HE := Sh.mk (show commitF m (rs.take 0) = m from rfl)
  have HL := Sh.mk (show rs.take rs.length = rs from List.take_length)
  unfold maxLen at hc2
  have hlen : rs.length ≤ 9223372036854775807 := by omega
  have HB' := Sh.mk hB
  clear hrow hro hks hb hm hov hv hnp ho hB
  go_enter Try.func34, Try.ntmps34
  go_wp2_with fail
  go_loopw [13] (fun i wr => ∃ k : Nat, k ≤ rs.length ∧ i = .int .i64 k ∧ Sh (MapSS Try.prog 9 9 wr bn (B + k) (commitF m (rs.take k))) ∧ Sh (Blk wr p 63 [.int .i64 g0, .int .i64 t0, .map (some bn), .map (some bo)]) ∧ Sh (Chg (fun k => k = bn) w wr)) (fun i _ => rs.length - (intOf i).toNat)
  case atStart => exact ⟨0, Nat.zero_le _, rfl, HM0, HB0, ⟨Chg.refl _ _⟩⟩
  case round =>
    obtain ⟨k, hk, rfl, HM, HB, HC⟩ := hrel
    clear c3 hl
    by_cases hlt : k < rs.length
    · have hBk := Sh.mk (show B + k < maxLen by have := HB'.out; omega)
      obtain ⟨A', c', e, _, _, hr⟩ := (HRW.out.chg HC.out (fun k hk => HRO.out k hk)).reads (fun _ => rfl)
      injection e with e1 e2 e3
      subst e1 e3
      obtain ⟨b, off, rfl, hc⟩ := hr k hlt
      have HCC := Sh.mk hc
      clear hr hc e2
      obtain ⟨x, hx⟩ : ∃ x, x = rs[k] := ⟨_, rfl⟩
      rw [← hx] at HCC
      have HX := Sh.mk (show x = rs[k]?.getD x by rw [hx]; simp [hlt])
      have HK := Sh.mk (HKS.out x (hx ▸ List.getElem_mem hlt))
      clear hx
      have hc0 : wr.cell? ⟨b, off + k * 11, none⟩ = some (.int .i64 x.kind) := HCC.out 0 _ rfl
      have hc1 : wr.cell? ⟨b, off + k * 11 + 1, none⟩ = some (.int .i64 x.gsn) := HCC.out 1 _ rfl
      have hc2 : wr.cell? ⟨b, off + k * 11 + 2, none⟩ = some (.int .i64 x.txn) := HCC.out 2 _ rfl
      have hc3 : wr.cell? ⟨b, off + k * 11 + 3, none⟩ = some (.int .i64 x.prev) := HCC.out 3 _ rfl
      have hc4 : wr.cell? ⟨b, off + k * 11 + 4, none⟩ = some (.int .i64 x.page) := HCC.out 4 _ rfl
      have hc5 : wr.cell? ⟨b, off + k * 11 + 5, none⟩ = some (.string x.key) := HCC.out 5 _ rfl
      have hc6 : wr.cell? ⟨b, off + k * 11 + 6, none⟩ = some (.bool x.bef.has) := HCC.out 6 _ rfl
      have hc7 : wr.cell? ⟨b, off + k * 11 + 7, none⟩ = some (.string x.bef.s) := HCC.out 7 _ rfl
      have hc8 : wr.cell? ⟨b, off + k * 11 + 8, none⟩ = some (.bool x.aft.has) := HCC.out 8 _ rfl
      have hc9 : wr.cell? ⟨b, off + k * 11 + 9, none⟩ = some (.string x.aft.s) := HCC.out 9 _ rfl
      have hc10 : wr.cell? ⟨b, off + k * 11 + 10, none⟩ = some (.int .i64 x.undo) := HCC.out 10 _ rfl
      cases hh : x.aft.has
      · have HH := Sh.mk hh
        clear hh
        have hBk := hBk.out
        go_wp2_with fail
        refine wp_gen (fun W => Blk W wr.heap.size 31 [.int .i64 x.kind, .int .i64 x.gsn, .int .i64 x.txn, .int .i64 x.prev, .int .i64 x.page, .string x.key, .bool x.bef.has, .string x.bef.s, .bool x.aft.has, .string x.aft.s, .int .i64 x.undo] ∧ Chg (fun _ => False) wr W) ⟨Blk.new' rfl, (Chg.refl _ _).alloc _⟩ ?_
        rintro W ⟨hx, hcW⟩
        have d1 : W.cell? ⟨p, 2, none⟩ = some (.map (some bn)) := (HB.out.chg hcW (fun h => h)).cell 2
        have e5 : W.cell? ⟨wr.heap.size, 5, none⟩ = some (.string x.key) := hx.cell 5
        go_still_tail 6, (by kernel_rfl)
        change wpList _ _ _ _ _ W.drew
        have hM1 := (HM.out.chg hcW (fun h => h)).chg (Chg.refl (fun _ => False) W).drew (fun h => h)
        have hx8 : W.cell? ⟨wr.heap.size, 8, none⟩ = some (.bool false) := HH.out ▸ hx.cell 8
        have hx9 : W.cell? ⟨wr.heap.size, 9, none⟩ = some (.string x.aft.s) := hx.cell 9
        have hne : ¬ wr.heap.size = bn := by have := HM.out.lt; omega
        have hCW := Sh.mk (HC.out.trans (hcW.mono (G := fun k => k = bn) (fun _ _ h => h.elim)) (fun _ _ h => h))
        have hBW := Sh.mk (HB.out.chg hcW (fun h => h))
        clear hcW hx
        go_wp2_with (at_delete; refine wpl_del_SS _ rfl _ _ 60 rfl Try.underlying9 Try.underlying60 hM1 x.key HK.out.1 rfl rfl ?_; intro w1 hM3 hc1; have hc2 : Chg (fun k => k = bn) W w1 := Chg.trans (w1 := W.drew) (Chg.refl _ W).drew hc1 (fun _ _ h => h); have y8 := hc2.cell_of hx8 hne; have y5 := hc2.cell_of e5 hne; have y9 := hc2.cell_of hx9 hne; have y2 := hc2.cell_of d1 (fun e => HN.out e.symm); clear hx8 hx9 e5 d1 hM1 hc1)
        have hB3 := hBW.out.chg hc2 (fun e => HN.out e.symm)
        have hC3 := hCW.out.trans hc2 (fun _ _ h => h)
        go_roundw
        case rel => exact ⟨k + 1, by omega, by go_num, ⟨commit_step' HX.out hlt HH.out ▸ hM3.mono (by omega)⟩, ⟨hB3⟩, ⟨hC3⟩⟩
        case measure => simp [intOf]; omega
      · have HH := Sh.mk hh
        clear hh
        have hBk := hBk.out
        go_wp2_with fail
        refine wp_gen (fun W => Blk W wr.heap.size 31 [.int .i64 x.kind, .int .i64 x.gsn, .int .i64 x.txn, .int .i64 x.prev, .int .i64 x.page, .string x.key, .bool x.bef.has, .string x.bef.s, .bool x.aft.has, .string x.aft.s, .int .i64 x.undo] ∧ Chg (fun _ => False) wr W) ⟨Blk.new' rfl, (Chg.refl _ _).alloc _⟩ ?_
        rintro W ⟨hx, hcW⟩
        have d1 : W.cell? ⟨p, 2, none⟩ = some (.map (some bn)) := (HB.out.chg hcW (fun h => h)).cell 2
        have e5 : W.cell? ⟨wr.heap.size, 5, none⟩ = some (.string x.key) := hx.cell 5
        go_still_tail 6, (by kernel_rfl)
        change wpList _ _ _ _ _ W.drew
        have hM1 := (HM.out.chg hcW (fun h => h)).chg (Chg.refl (fun _ => False) W).drew (fun h => h)
        have hx8 : W.cell? ⟨wr.heap.size, 8, none⟩ = some (.bool true) := HH.out ▸ hx.cell 8
        have hx9 : W.cell? ⟨wr.heap.size, 9, none⟩ = some (.string x.aft.s) := hx.cell 9
        have hne : ¬ wr.heap.size = bn := by have := HM.out.lt; omega
        have hCW := Sh.mk (HC.out.trans (hcW.mono (G := fun k => k = bn) (fun _ _ h => h.elim)) (fun _ _ h => h))
        have hBW := Sh.mk (HB.out.chg hcW (fun h => h))
        clear hcW hx
        go_wp2_with (at_delete; refine wpl_del_SS _ rfl _ _ 60 rfl Try.underlying9 Try.underlying60 hM1 x.key HK.out.1 rfl rfl ?_; intro w1 hM3 hc1; have hc2 : Chg (fun k => k = bn) W w1 := Chg.trans (w1 := W.drew) (Chg.refl _ W).drew hc1 (fun _ _ h => h); have y8 := hc2.cell_of hx8 hne; have y5 := hc2.cell_of e5 hne; have y9 := hc2.cell_of hx9 hne; have y2 := hc2.cell_of d1 (fun e => HN.out e.symm); clear hx8 hx9 e5 d1 hM1 hc1)
        have hB3 := hBW.out.chg hc2 (fun e => HN.out e.symm)
        have hC3 := hCW.out.trans hc2 (fun _ _ h => h)
        go_still_tail 9, (by kernel_rfl)
        change wpList _ _ _ _ _ w1.drew
        have hM4 := hM3.chg (Chg.refl (fun _ => False) w1).drew (fun h => h)
        go_wp2_with (at_mapUpdate; refine wpl_put_SS _ rfl _ _ _ 60 rfl Try.underlying9 Try.underlying9 Try.underlying60 hM4 (by omega) x.key x.aft.s HK.out.1 HK.out.2 rfl rfl rfl ?_; intro w2 hM5 hc5)
        have hc6 : Chg (fun k => k = bn) w1 w2 := Chg.trans (w1 := w1.drew) (Chg.refl _ w1).drew hc5 (fun _ _ h => h)
        go_roundw
        case rel => exact ⟨k + 1, by omega, by go_num, ⟨commit_step HX.out hlt HH.out ▸ hM5⟩, ⟨hB3.chg hc6 (fun e => HN.out e.symm)⟩, ⟨hC3.trans hc6 (fun _ _ h => h)⟩⟩
        case measure => simp [intOf]; omega
    · obtain rfl : k = rs.length := by omega
      go_wp2_with fail
      go_end0
      exact ⟨rfl, by have h := HM.out; rw [HL.out] at h; exact h, HC.out⟩
end Go.Proofs.Ytbjpilnlkmajpaa
