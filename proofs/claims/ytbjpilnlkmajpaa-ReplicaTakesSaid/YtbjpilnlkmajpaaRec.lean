import Derived.Test.YtbjpilnlkmajpaaIdx
import Derived.Laws.StructEq
namespace Go.Proofs.Ytbjpilnlkmajpaa
set_option linter.unusedVariables false
set_option linter.unusedSimpArgs false
open Go.RowKit Go.Maps Go.Proofs.K

theorem toList_size (s : ByteArray) : s.toList.length = s.size := by rw [ByteArray.toList_eq]; simp
theorem toList_inj {x y : ByteArray} : x.toList = y.toList ↔ x = y := by
  refine ⟨fun h => ?_, fun h => by rw [h]⟩
  rw [ByteArray.toList_eq, ByteArray.toList_eq] at h
  obtain ⟨⟨x⟩⟩ := x
  obtain ⟨⟨y⟩⟩ := y
  exact congrArg _ (congrArg _ h)
theorem toList_beq (x y : ByteArray) : (x.toList == y.toList) = decide (x = y) := by
  by_cases h : x = y
  · simp [h]
  · simp [h, toList_inj]
theorem toList_empty (s : ByteArray) : s.toList.isEmpty = decide (s.size = 0) := by
  rw [← toList_size]
  cases s.toList <;> simp
theorem toList_beq_nil (s : ByteArray) : (s.toList == []) = decide (s.size = 0) := by
  rw [← toList_size]
  cases s.toList <;> simp
theorem toList_nil_iff (s : ByteArray) : s.toList = [] ↔ s.size = 0 := by
  rw [← toList_size]
  cases s.toList <;> simp
theorem eqV (x y : VL) (w : World) :
    (binOp .eql 29 (.agg #[.bool x.has, .string x.s]) (.agg #[.bool y.has, .string y.s])).run Try.prog w = .ok (.bool (decide (x = y))) w := by
  have hu := Try.underlying29
  have hS : Try.prog.underlying 29 = some (.struct (Try.prog.fieldsOf 29)) := by kernel_rfl
  have hp : Try.prog.stoodInHeld 29 = false := by kernel_rfl
  rw [run_eql_struct, show (10000 : Nat) = 9999 + 1 from rfl, run_equalIn_agg w 9999 29 _ _ hS hp]
  simp only [Program.fieldsOf, hu]
  obtain ⟨xh, xs⟩ := x
  obtain ⟨yh, ys⟩ := y
  go_simp
  by_cases h1 : xh = yh <;> by_cases h2 : xs = ys <;> simp [h1, h2, toList_inj]
theorem neV (x y : VL) (w : World) :
    (binOp .neq 29 (.agg #[.bool x.has, .string x.s]) (.agg #[.bool y.has, .string y.s])).run Try.prog w = .ok (.bool (!decide (x = y))) w := by
  have hu := Try.underlying29
  have hS : Try.prog.underlying 29 = some (.struct (Try.prog.fieldsOf 29)) := by kernel_rfl
  have hp : Try.prog.stoodInHeld 29 = false := by kernel_rfl
  rw [run_neq_struct, show (10000 : Nat) = 9999 + 1 from rfl, run_equalIn_agg w 9999 29 _ _ hS hp]
  simp only [Program.fieldsOf, hu]
  obtain ⟨xh, xs⟩ := x
  obtain ⟨yh, ys⟩ := y
  go_simp
  by_cases h1 : xh = yh <;> by_cases h2 : xs = ys <;> simp [h1, h2, toList_inj]

def keyF (s : ByteArray) : Bool := decide (1 ≤ s.size) && decide (s.size ≤ 8)
def valF (v : VL) : Bool := decide (v.s.size ≤ 16) && (v.has || decide (v.s.size = 0))
def changesF (k : Int) : Bool := k == 2 || k == 3
def withinF (n lo hi : Int) : Bool := decide (lo ≤ n) && decide (n ≤ hi)
def noVal : VL := ⟨false, ⟨#[]⟩⟩
def bodyF (r : RC) : Bool :=
  if changesF r.kind then withinF r.page 0 63 && keyF r.key && (valF r.bef && valF r.aft) && !decide (r.bef = r.aft)
  else decide (r.page = 0) && decide (r.key.size = 0) && decide (r.bef = noVal) && decide (r.aft = noVal)
def undoF (r : RC) : Bool := if r.kind == 3 then withinF r.undo 1 r.prev else if r.kind == 4 then withinF r.undo 0 255 else r.undo == 0
def rightF (r : RC) : Bool :=
  withinF r.kind 1 6 && withinF r.txn 1 2147483647 && withinF r.gsn 1 4611686018427387903 && withinF r.prev 0 (wrap64 (r.gsn - 1)) && ((r.prev == 0) == (r.kind == 1)) && bodyF r && undoF r

set_option maxHeartbeats 400000 in
theorem within_calls (n lo hi : Int) (w : World) : Calls Try.prog 52 #[.int .i64 n, .int .i64 lo, .int .i64 hi] w fun e w' => e = .returned (.bool (withinF n lo hi)) ∧ w = w' := by
  unfold withinF
  by_cases h1 : lo ≤ n <;> by_cases h2 : n ≤ hi
  all_goals
    go_enter Try.func52, Try.ntmps52
    go_wp2
    go_ret
    exact ⟨by simp [h1, h2], rfl⟩

set_option maxHeartbeats 400000 in
theorem changes_calls (k : Int) (w : World) : Calls Try.prog 77 #[.int .i64 k] w fun e w' => e = .returned (.bool (changesF k)) ∧ w = w' := by
  unfold changesF
  by_cases h1 : (k == 2) = true
  · go_enter Try.func77, Try.ntmps77
    go_wp2
    go_ret
    exact ⟨by simp [h1], rfl⟩
  · have h2 : (k == 2) = false := by simpa using h1
    clear h1
    go_enter Try.func77, Try.ntmps77
    go_wp2
    go_ret
    exact ⟨by simp [h2], rfl⟩

set_option maxHeartbeats 400000 in
theorem key1_calls (s : ByteArray) (w : World) : Calls Try.prog 89 #[.string s] w fun e w' => e = .returned (.bool (keyF s)) ∧ w = w' := by
  unfold keyF
  have hs := toList_empty s
  by_cases h1 : s.size = 0
  · have h2 : s.toList.isEmpty = true := by rw [hs]; simp [h1]
    clear hs
    go_enter Try.func89, Try.ntmps89
    go_wp2
    go_ret
    exact ⟨by simp [h1], rfl⟩
  · have h2 : s.toList.isEmpty = false := by rw [hs]; simp [h1]
    clear hs
    go_enter Try.func89, Try.ntmps89
    go_wp2
    go_ret
    have h3 : 1 ≤ s.size := by omega
    exact ⟨by simp [h3]; by_cases h4 : s.size ≤ 8 <;> simp [h4] <;> omega, rfl⟩

set_option maxHeartbeats 400000 in
theorem val1_calls (v : VL) (w : World) : Calls Try.prog 91 #[.agg #[.bool v.has, .string v.s]] w fun e w' => e = .returned (.bool (valF v)) ∧ Below w.heap.size w w' := by
  unfold valF
  obtain ⟨h, s⟩ := v
  have hb : Below w.heap.size w (w.alloc (.cells #[.bool h, .string s] 29)) := (Below.refl _ _).alloc (Nat.le_refl _) _
  cases h
  all_goals
    by_cases h1 : s.size ≤ 16
    all_goals
      go_enter Try.func91, Try.ntmps91
      go_wp2
      go_ret
      exact ⟨by simp [h1, toList_empty], hb⟩

theorem PredB.mono {α : Type} {P : Program} {g : FuncId} {lb : Array Value} {enc : α → Value} {p : α → Bool} {w0 : World} (h : ∀ W x, Calls P g (#[enc x] ++ lb) W fun e w' => e = .returned (.bool (p x)) ∧ Below W.heap.size W w') : PredB P g lb enc p w0 := fun W x _ => h W x

set_option maxHeartbeats 400000 in
theorem key_calls (A : Option Addr) (c : Nat) (l : List ByteArray) (w : World) (hr : RowOf encStr 1 w A l) (hm : l.length ≤ 9223372036854775807) :
    Calls Try.prog 78 #[.slice A l.length c] w fun e w' => e = .returned (.bool (l.all keyF)) ∧ Below w.heap.size w w' := by
  have H := all_str_calls 89 #[] (Go.Proofs.enters_of Try.func89 (by kernel_rfl) rfl) keyF A c l w hr hm (PredB.mono fun W x => (key1_calls x W).mono fun e w' ⟨h1, h2⟩ => ⟨h1, h2 ▸ Below.refl _ _⟩)
  generalize l.all keyF = r at H ⊢
  clear hr
  go_enter Try.func78, Try.ntmps78
  go_wp2_with (go_at_call 90; refine H.mono ?_; rintro e w' ⟨rfl, hb⟩)
  go_ret
  exact ⟨rfl, hb⟩

set_option maxHeartbeats 400000 in
theorem value_calls (A : Option Addr) (c : Nat) (l : List VL) (w : World) (hr : RowOf encVal 2 w A l) (hm : l.length ≤ 9223372036854775807) :
    Calls Try.prog 79 #[.slice A l.length c] w fun e w' => e = .returned (.bool (l.all valF)) ∧ Below w.heap.size w w' := by
  have H := all_val_calls 91 #[] (Go.Proofs.enters_of Try.func91 (by kernel_rfl) rfl) valF A c l w hr hm (PredB.mono fun W x => val1_calls x W)
  generalize l.all valF = r at H ⊢
  clear hr
  go_enter Try.func79, Try.ntmps79
  go_wp2_with (go_at_call 92; refine H.mono ?_; rintro e w' ⟨rfl, hb⟩)
  go_ret
  exact ⟨rfl, hb⟩

/-- keys of one, values of two: as they are called with a list of the caller's own. -/
theorem key_one (s : ByteArray) (w : World) (b off : Nat) (h : w.cell? ⟨b, off, none⟩ = some (.string s)) :
    Calls Try.prog 78 #[.slice (some ⟨b, off, none⟩) 1 1] w fun e w' => e = .returned (.bool (keyF s)) ∧ Below w.heap.size w w' := by
  have H := key_calls (some ⟨b, off, none⟩) 1 [s] w (RowOf.one fun j v hv => by
    match j, hv with
    | 0, hv => simp [encStr] at hv; subst hv; exact h) (by simp)
  simpa using H
theorem value_two (x y : VL) (w : World) (b : Nat) (h0 : w.cell? ⟨b, 0, none⟩ = some (.bool x.has)) (h1 : w.cell? ⟨b, 1, none⟩ = some (.string x.s)) (h2 : w.cell? ⟨b, 2, none⟩ = some (.bool y.has)) (h3 : w.cell? ⟨b, 3, none⟩ = some (.string y.s)) :
    Calls Try.prog 79 #[.slice (some ⟨b, 0, none⟩) 2 2] w fun e w' => e = .returned (.bool (valF x && valF y)) ∧ Below w.heap.size w w' := by
  have H := value_calls (some ⟨b, 0, none⟩) 2 [x, y] w (fun k hk => ⟨b, 0, rfl, fun j v hv => by
    match k, hk, j, hv with
    | 0, _, 0, hv => simp [encVal] at hv; subst hv; exact h0
    | 0, _, 1, hv => simp [encVal] at hv; subst hv; exact h1
    | 1, _, 0, hv => simp [encVal] at hv; subst hv; exact h2
    | 1, _, 1, hv => simp [encVal] at hv; subst hv; exact h3⟩) (by simp)
  simpa using H

set_option maxHeartbeats 2000000 in
set_option maxRecDepth 100000 in
theorem body_calls (r : RC) (w : World) : Calls Try.prog 53 #[.agg #[.int .i64 r.kind, .int .i64 r.gsn, .int .i64 r.txn, .int .i64 r.prev, .int .i64 r.page, .string r.key, .bool r.bef.has, .string r.bef.s, .bool r.aft.has, .string r.aft.s, .int .i64 r.undo]] w
    fun e w' => e = .returned (.bool (bodyF r)) ∧ Below w.heap.size w w' := by
  generalize hR : bodyF r = R
  obtain ⟨kind, gsn, txn, prev, page, key, bef, aft, undo⟩ := r
  unfold bodyF at hR
  dsimp only at hR ⊢
  have HR := Sh.mk hR
  clear hR
  have hb : Below w.heap.size w (w.alloc (.cells #[.int .i64 kind, .int .i64 gsn, .int .i64 txn, .int .i64 prev, .int .i64 page, .string key, .bool bef.has, .string bef.s, .bool aft.has, .string aft.s, .int .i64 undo] 31)) := (Below.refl _ _).alloc (Nat.le_refl _) _
  have HB := Sh.mk hb
  clear hb
  generalize hq : changesF kind = q
  have HQ := Sh.mk hq
  clear hq
  cases q
  · have ev := fun (x : VL) (w : World) => eqV x noVal w
    unfold noVal at ev
    have ev1 := fun w => ev bef w
    have ev2 := fun w => ev aft w
    clear ev
    generalize hd1 : decide (bef = ⟨false, ⟨#[]⟩⟩) = d1 at ev1
    generalize hd2 : decide (aft = ⟨false, ⟨#[]⟩⟩) = d2 at ev2
    have HD := Sh.mk (And.intro hd1 hd2)
    clear hd1 hd2
    go_enter Try.func53, Try.ntmps53
    go_wp2_with (go_at_call 77; refine (changes_calls _ _).mono ?_; rw [HQ.out]; rintro e w' ⟨rfl, rfl⟩)
    all_goals
      go_ret
      refine ⟨?_, by repeat (first | exact Below.refl _ _ | refine below_trans ?_ (by assumption) | refine bl_alloc ?_ _ | refine bl_drew ?_ | refine bl_drewN ?_ _)⟩
      rw [← HR.out, HQ.out]
      unfold noVal
      rw [HD.out.1, HD.out.2]
      simp only [toList_nil_iff] at *
      simp [*]
  · have ev := fun (w : World) => neV bef aft w
    generalize hd1 : decide (bef = aft) = d1 at ev
    have HD := Sh.mk hd1
    clear hd1
    have hc := fun (b : Nat) (w : World) h0 => key_one key w b 0 h0
    have hv := fun (b : Nat) (w : World) h0 h1 h2 h3 => value_two bef aft w b h0 h1 h2 h3
    generalize hk1 : keyF key = k1 at hc
    generalize hk2 : (valF bef && valF aft) = k2 at hv
    have HK := Sh.mk (And.intro hk1 hk2)
    clear hk1 hk2
    have HC := Sh.mk hc
    have HV := Sh.mk hv
    clear hc hv
    generalize hw : withinF page 0 63 = w1
    go_enter Try.func53, Try.ntmps53
    go_wp2_with (first | (go_at_call 77; refine (changes_calls _ _).mono ?_; rw [HQ.out]; rintro e w' ⟨rfl, rfl⟩) | (go_at_call 52; refine (within_calls _ _ _ _).mono ?_; rintro e w' ⟨rfl, rfl⟩) | (go_at_call 78; refine (HC.out _ _ ?_).mono ?_; go_simp; rintro e w1 ⟨rfl, hb1⟩; have x16 := below_cell hb1 (show World.cell? _ ⟨w.heap.size, 6, none⟩ = some (.bool bef.has) by go_simp); have x17 := below_cell hb1 (show World.cell? _ ⟨w.heap.size, 7, none⟩ = some (.string bef.s) by go_simp); have x18 := below_cell hb1 (show World.cell? _ ⟨w.heap.size, 8, none⟩ = some (.bool aft.has) by go_simp); have x19 := below_cell hb1 (show World.cell? _ ⟨w.heap.size, 9, none⟩ = some (.string aft.s) by go_simp)) | (go_at_call 79; refine (HV.out _ _ ?_ ?_ ?_ ?_).mono ?_; go_simp; go_simp; go_simp; go_simp; rintro e w2 ⟨rfl, hb2⟩; have x26 := below_cell hb2 (below_cell (bl_alloc (Below.refl _ _) _) x16); have x27 := below_cell hb2 (below_cell (bl_alloc (Below.refl _ _) _) x17); have x28 := below_cell hb2 (below_cell (bl_alloc (Below.refl _ _) _) x18); have x29 := below_cell hb2 (below_cell (bl_alloc (Below.refl _ _) _) x19)))
    all_goals
      go_ret
      refine ⟨?_, by repeat (first | exact Below.refl _ _ | refine below_trans ?_ (by assumption) | refine bl_alloc ?_ _ | refine bl_drew ?_ | refine bl_drewN ?_ _)⟩
      rw [← HR.out, HQ.out, HK.out.1, HK.out.2, HD.out]
      simp [*]

set_option maxHeartbeats 1000000 in
set_option maxRecDepth 100000 in
theorem undo_calls (r : RC) (w : World) : Calls Try.prog 54 #[.agg #[.int .i64 r.kind, .int .i64 r.gsn, .int .i64 r.txn, .int .i64 r.prev, .int .i64 r.page, .string r.key, .bool r.bef.has, .string r.bef.s, .bool r.aft.has, .string r.aft.s, .int .i64 r.undo]] w
    fun e w' => e = .returned (.bool (undoF r)) ∧ Below w.heap.size w w' := by
  generalize hR : undoF r = R
  obtain ⟨kind, gsn, txn, prev, page, key, bef, aft, undo⟩ := r
  unfold undoF at hR
  dsimp only at hR ⊢
  have HR := Sh.mk hR
  clear hR
  go_enter Try.func54, Try.ntmps54
  go_wp2_with (first | (go_at_call 52; refine (within_calls _ _ _ _).mono ?_; rintro e w' ⟨rfl, rfl⟩))
  all_goals
    go_ret
    refine ⟨?_, by repeat (first | exact Below.refl _ _ | refine below_trans ?_ (by assumption) | refine bl_alloc ?_ _ | refine bl_drew ?_ | refine bl_drewN ?_ _)⟩
    rw [← HR.out]
    simp [*]

set_option maxHeartbeats 4000000 in
set_option maxRecDepth 100000 in
theorem right_calls (r : RC) (w : World) : Calls Try.prog 42 #[.agg #[.int .i64 r.kind, .int .i64 r.gsn, .int .i64 r.txn, .int .i64 r.prev, .int .i64 r.page, .string r.key, .bool r.bef.has, .string r.bef.s, .bool r.aft.has, .string r.aft.s, .int .i64 r.undo]] w
    fun e w' => e = .returned (.bool (rightF r)) ∧ Below w.heap.size w w' := by
  generalize hR : rightF r = R
  have HBD := Sh.mk (fun w => body_calls r w)
  have HUD := Sh.mk (fun w => undo_calls r w)
  unfold rightF at hR
  generalize bodyF r = qb at hR HBD
  generalize undoF r = qu at hR HUD
  obtain ⟨kind, gsn, txn, prev, page, key, bef, aft, undo⟩ := r
  dsimp only at hR HBD HUD ⊢
  have HR := Sh.mk hR
  clear hR
  go_enter Try.func42, Try.ntmps42
  go_wp2_with (first | (go_at_call 52; refine (within_calls _ _ _ _).mono ?_; rintro e w' ⟨rfl, rfl⟩) | (go_at_call 53; refine (HBD.out _).mono ?_; rintro e w1 ⟨rfl, hb1⟩; have x0 := below_cell hb1 (show World.cell? _ ⟨w.heap.size, 0, none⟩ = some (.int .i64 kind) by go_simp); have x1 := below_cell hb1 (show World.cell? _ ⟨w.heap.size, 1, none⟩ = some (.int .i64 gsn) by go_simp); have x2 := below_cell hb1 (show World.cell? _ ⟨w.heap.size, 2, none⟩ = some (.int .i64 txn) by go_simp); have x3 := below_cell hb1 (show World.cell? _ ⟨w.heap.size, 3, none⟩ = some (.int .i64 prev) by go_simp); have x4 := below_cell hb1 (show World.cell? _ ⟨w.heap.size, 4, none⟩ = some (.int .i64 page) by go_simp); have x5 := below_cell hb1 (show World.cell? _ ⟨w.heap.size, 5, none⟩ = some (.string key) by go_simp); have x6 := below_cell hb1 (show World.cell? _ ⟨w.heap.size, 6, none⟩ = some (.bool bef.has) by go_simp); have x7 := below_cell hb1 (show World.cell? _ ⟨w.heap.size, 7, none⟩ = some (.string bef.s) by go_simp); have x8 := below_cell hb1 (show World.cell? _ ⟨w.heap.size, 8, none⟩ = some (.bool aft.has) by go_simp); have x9 := below_cell hb1 (show World.cell? _ ⟨w.heap.size, 9, none⟩ = some (.string aft.s) by go_simp); have x10 := below_cell hb1 (show World.cell? _ ⟨w.heap.size, 10, none⟩ = some (.int .i64 undo) by go_simp)) | (go_at_call 54; refine (HUD.out _).mono ?_; rintro e w2 ⟨rfl, hb2⟩))
  all_goals
    go_ret
    refine ⟨?_, by repeat (first | exact Below.refl _ _ | refine below_trans ?_ (by assumption) | refine bl_alloc ?_ _ | refine bl_drew ?_ | refine bl_drewN ?_ _)⟩
    rw [← HR.out]
    simp [*]

set_option maxHeartbeats 1000000 in
theorem Right_calls (A : Option Addr) (c : Nat) (l : List RC) (w : World) (hr : RowOf encRec 11 w A l) (hm : l.length ≤ 9223372036854775807) :
    Calls Try.prog 32 #[.slice A l.length c] w fun e w' => e = .returned (.bool (l.all rightF)) ∧ Below w.heap.size w w' := by
  have H := all_rec_calls 42 #[] (Go.Proofs.enters_of Try.func42 (by kernel_rfl) rfl) rightF A c l w hr hm (PredB.mono fun W x => right_calls x W)
  generalize l.all rightF = r at H ⊢
  clear hr
  go_enter Try.func32, Try.ntmps32
  go_wp2_with (go_at_call 41; refine H.mono ?_; rintro e w' ⟨rfl, hb⟩)
  go_ret
  exact ⟨rfl, hb⟩
end Go.Proofs.Ytbjpilnlkmajpaa
