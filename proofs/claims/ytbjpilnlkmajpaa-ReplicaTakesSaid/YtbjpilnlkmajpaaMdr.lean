import Derived.Test.YtbjpilnlkmajpaaMdw
namespace Go.Proofs.Ytbjpilnlkmajpaa
set_option linter.unusedVariables false
set_option linter.unusedSimpArgs false
open Go.RowKit Go.Maps Go.Proofs.K

set_option maxHeartbeats 1000000 in
theorem ahead18_calls (a b : BR) (w : World) : Calls Try.prog 21 #[.agg #[.int .i64 a.stream, .int .i64 a.r.kind, .int .i64 a.r.gsn, .int .i64 a.r.txn, .int .i64 a.r.prev, .int .i64 a.r.page, .string a.r.key, .bool a.r.bef.has, .string a.r.bef.s, .bool a.r.aft.has, .string a.r.aft.s, .int .i64 a.r.undo], .agg #[.int .i64 b.stream, .int .i64 b.r.kind, .int .i64 b.r.gsn, .int .i64 b.r.txn, .int .i64 b.r.prev, .int .i64 b.r.page, .string b.r.key, .bool b.r.bef.has, .string b.r.bef.s, .bool b.r.aft.has, .string b.r.aft.s, .int .i64 b.r.undo]] w fun e w' => e = .returned (.bool (aheadF a.r.gsn a.stream b)) ∧ Below w.heap.size w w' := by
  generalize hG : aheadF a.r.gsn a.stream b = R
  unfold aheadF at hG
  obtain ⟨s, kind, gsn, txn, prev, page, key, bef, aft, undo⟩ := a
  obtain ⟨s2, kind2, gsn2, txn2, prev2, page2, key2, bef2, aft2, undo2⟩ := b
  dsimp only at hG ⊢
  have HG := Sh.mk hG
  clear hG
  by_cases h1 : gsn < gsn2
  · have d1 : decide (gsn < gsn2) = true := by simp [h1]
    clear h1
    go_enter Try.func21, Try.ntmps21
    go_wp2_with fail
    go_ret
    exact ⟨by rw [← HG.out]; exact congrArg (fun b => Ending.returned (Value.bool b)) (decide_eq_true (.inl (of_decide_eq_true d1))).symm, by repeat (first | exact Below.refl _ _ | refine bl_alloc ?_ _ | refine bl_drew ?_)⟩
  · have d1 : decide (gsn < gsn2) = false := decide_eq_false h1
    clear h1
    by_cases h2 : gsn = gsn2
    · have d2 : (gsn == gsn2) = true := by simp [h2]
      have H2 := Sh.mk h2
      clear h2
      go_enter Try.func21, Try.ntmps21
      go_wp2_with fail
      go_ret
      exact ⟨by rw [← HG.out]; simp [H2.out], by repeat (first | exact Below.refl _ _ | refine bl_alloc ?_ _ | refine bl_drew ?_)⟩
    · have d2 : (gsn == gsn2) = false := by simp [h2]
      have H2 := Sh.mk h2
      clear h2
      go_enter Try.func21, Try.ntmps21
      go_wp2_with fail
      go_ret
      exact ⟨by rw [← HG.out]; simp at d1; simp [H2.out, d1], by repeat (first | exact Below.refl _ _ | refine bl_alloc ?_ _ | refine bl_drew ?_)⟩

set_option maxHeartbeats 400000 in
theorem page04_calls (k : Int) (w : World) : Calls Try.prog 29 #[.int .i64 k] w fun e w' => e = .returned (.bool (changesF k)) ∧ w = w' := by
  unfold changesF
  by_cases h1 : (k == 2) = true
  · go_enter Try.func29, Try.ntmps29
    go_wp2
    go_ret
    exact ⟨by simp [h1], rfl⟩
  · have h2 : (k == 2) = false := by simpa using h1
    clear h1
    go_enter Try.func29, Try.ntmps29
    go_wp2
    go_ret
    exact ⟨by simp [h2], rfl⟩

set_option maxHeartbeats 400000 in
theorem key04_calls (s : ByteArray) (w : World) : Calls Try.prog 30 #[.string s] w fun e w' => e = .returned (.bool (keyF s)) ∧ w = w' := by
  unfold keyF
  have hs := toList_empty s
  by_cases h1 : s.size = 0
  · have h2 : s.toList.isEmpty = true := by rw [hs]; simp [h1]
    clear hs
    go_enter Try.func30, Try.ntmps30
    go_wp2
    go_ret
    exact ⟨by simp [h1], rfl⟩
  · have h2 : s.toList.isEmpty = false := by rw [hs]; simp [h1]
    clear hs
    go_enter Try.func30, Try.ntmps30
    go_wp2
    go_ret
    have h3 : 1 ≤ s.size := by omega
    exact ⟨by simp [h3]; by_cases h4 : s.size ≤ 8 <;> simp [h4] <;> omega, rfl⟩

set_option maxHeartbeats 400000 in
theorem val04_calls (v : VL) (w : World) : Calls Try.prog 31 #[.agg #[.bool v.has, .string v.s]] w fun e w' => e = .returned (.bool (valF v)) ∧ Below w.heap.size w w' := by
  unfold valF
  obtain ⟨h, s⟩ := v
  have hb : Below w.heap.size w (w.alloc (.cells #[.bool h, .string s] 29)) := (Below.refl _ _).alloc (Nat.le_refl _) _
  cases h
  all_goals
    by_cases h1 : s.size ≤ 16
    all_goals
      go_enter Try.func31, Try.ntmps31
      go_wp2
      go_ret
      exact ⟨by simp [h1, toList_empty], hb⟩

def right04F (r : RC) : Bool :=
  if (decide (r.kind < 1) || decide (6 < r.kind) || decide (r.txn < 1) || decide (2147483647 < r.txn) || decide (r.gsn < 1) || decide (4611686018427387903 < r.gsn) || decide (r.prev < 0) || decide (r.gsn ≤ r.prev) || ((r.prev == 0) != (r.kind == 1))) = true then false
  else if (changesF r.kind && (decide (r.page < 0) || decide (63 < r.page) || !keyF r.key || !valF r.bef || !valF r.aft || decide (r.bef = r.aft))) = true then false
  else if (!changesF r.kind && (r.page != 0 || !decide (r.key.size = 0) || !decide (r.bef = noVal) || !decide (r.aft = noVal))) = true then false
  else if r.kind == 3 then decide (1 ≤ r.undo) && decide (r.undo ≤ r.prev)
  else if r.kind == 4 then decide (0 ≤ r.undo) && decide (r.undo < 256) else r.undo == 0
theorem dec_not {p q : Prop} [Decidable p] [Decidable q] (h : p ↔ ¬ q) : decide p = !decide q := by
  by_cases hq : q
  · have : ¬ p := fun hp => h.1 hp hq
    simp [hq, this]
  · simp [hq, h.2 hq]
theorem right04_eq (r : RC) : right04F r = rightF r := by
  unfold right04F rightF bodyF undoF withinF
  by_cases hg : r.gsn < 1 ∨ 4611686018427387903 < r.gsn
  · rcases hg with h | h
    · have h' : ¬ 1 ≤ r.gsn := by omega
      simp [h, h']
    · have h' : ¬ r.gsn ≤ 4611686018427387903 := by omega
      simp [h, h']
  have hw : wrap64 (r.gsn - 1) = r.gsn - 1 := by unfold wrap64; omega
  rw [hw]
  have a1 : decide (r.kind < 1) = !decide (1 ≤ r.kind) := dec_not (by omega)
  have a2 : decide (6 < r.kind) = !decide (r.kind ≤ 6) := dec_not (by omega)
  have a3 : decide (r.txn < 1) = !decide (1 ≤ r.txn) := dec_not (by omega)
  have a4 : decide (2147483647 < r.txn) = !decide (r.txn ≤ 2147483647) := dec_not (by omega)
  have a5 : decide (r.gsn < 1) = !decide (1 ≤ r.gsn) := dec_not (by omega)
  have a6 : decide (4611686018427387903 < r.gsn) = !decide (r.gsn ≤ 4611686018427387903) := dec_not (by omega)
  have a7 : decide (r.prev < 0) = !decide (0 ≤ r.prev) := dec_not (by omega)
  have a8 : decide (r.gsn ≤ r.prev) = !decide (r.prev ≤ r.gsn - 1) := dec_not (by omega)
  have a9 : decide (r.page < 0) = !decide (0 ≤ r.page) := dec_not (by omega)
  have a10 : decide (63 < r.page) = !decide (r.page ≤ 63) := dec_not (by omega)
  have a11 : (r.page != 0) = !decide (r.page = 0) := by rw [Bool.eq_iff_iff]; simp
  have a12 : decide (r.undo < 256) = decide (r.undo ≤ 255) := decide_eq_decide.2 (by omega)
  have a13 : ((r.prev == 0) != (r.kind == 1)) = !((r.prev == 0) == (r.kind == 1)) := rfl
  rw [a1, a2, a3, a4, a5, a6, a7, a8, a9, a10, a11, a12, a13]
  generalize decide (1 ≤ r.kind) = b1
  generalize decide (r.kind ≤ 6) = b2
  generalize decide (1 ≤ r.txn) = b3
  generalize decide (r.txn ≤ 2147483647) = b4
  generalize decide (1 ≤ r.gsn) = b5
  generalize decide (r.gsn ≤ 4611686018427387903) = b6
  generalize decide (0 ≤ r.prev) = b7
  generalize decide (r.prev ≤ r.gsn - 1) = b8
  generalize ((r.prev == 0) == (r.kind == 1)) = b9
  generalize changesF r.kind = q
  generalize (if (r.kind == 3) = true then decide (1 ≤ r.undo) && decide (r.undo ≤ r.prev) else if (r.kind == 4) = true then decide (0 ≤ r.undo) && decide (r.undo ≤ 255) else r.undo == 0) = u
  generalize decide (0 ≤ r.page) = b10
  generalize decide (r.page ≤ 63) = b11
  generalize keyF r.key = b12
  generalize valF r.bef = b13
  generalize valF r.aft = b14
  generalize decide (r.bef = r.aft) = b15
  generalize decide (r.page = 0) = b16
  generalize decide (r.key.size = 0) = b17
  generalize decide (r.bef = noVal) = b18
  generalize decide (r.aft = noVal) = b19
  cases b1 <;> try rfl
  cases b2 <;> try rfl
  cases b3 <;> try rfl
  cases b4 <;> try rfl
  cases b5 <;> try rfl
  cases b6 <;> try rfl
  cases b7 <;> try rfl
  cases b8 <;> try rfl
  cases b9 <;> try rfl
  cases q
  · cases b16 <;> try rfl
    cases b17 <;> try rfl
    cases b18 <;> try rfl
    cases b19 <;> rfl
  · cases b10 <;> try rfl
    cases b11 <;> try rfl
    cases b12 <;> try rfl
    cases b13 <;> try rfl
    cases b14 <;> try rfl
    cases b15 <;> rfl

set_option maxHeartbeats 8000000 in
set_option maxRecDepth 100000 in
theorem right04_calls (r : RC) (w : World) : Calls Try.prog 20 #[.agg #[.int .i64 r.kind, .int .i64 r.gsn, .int .i64 r.txn, .int .i64 r.prev, .int .i64 r.page, .string r.key, .bool r.bef.has, .string r.bef.s, .bool r.aft.has, .string r.aft.s, .int .i64 r.undo]] w fun e w' => e = .returned (.bool (rightF r)) ∧ Below w.heap.size w w' := by
  rw [← right04_eq]
  generalize hR : right04F r = R
  obtain ⟨kind, gsn, txn, prev, page, key, ⟨bh, bs⟩, ⟨ah, sa⟩, undo⟩ := r
  unfold right04F at hR
  dsimp only at hR ⊢
  have HR := Sh.mk hR
  clear hR
  have ev := fun (w : World) => eqV ⟨bh, bs⟩ ⟨ah, sa⟩ w
  have ev1 := fun (w : World) => neV ⟨bh, bs⟩ noVal w
  have ev2 := fun (w : World) => neV ⟨ah, sa⟩ noVal w
  generalize hd0 : decide ((⟨bh, bs⟩ : VL) = ⟨ah, sa⟩) = d0 at ev
  generalize hd1 : decide ((⟨bh, bs⟩ : VL) = noVal) = d1 at ev1
  generalize hd2 : decide ((⟨ah, sa⟩ : VL) = noVal) = d2 at ev2
  unfold noVal at ev1 ev2
  dsimp only at ev ev1 ev2
  rw [hd0, hd1, hd2] at HR
  clear hd0 hd1 hd2
  generalize hq : changesF kind = q
  have HQ := Sh.mk hq
  rw [hq] at HR
  clear hq
  have hn9 : ∀ W : World, (binOp .neq 4 (.bool (prev == 0)) (.bool (kind == 1))).run Try.prog W = .ok (.bool ((prev == 0) != (kind == 1))) W := fun W => by go_simp; cases (prev == 0) <;> cases (kind == 1) <;> rfl
  generalize hb9 : ((prev == 0) != (kind == 1)) = b9 at hn9
  rw [hb9] at HR
  clear hb9
  cases b9
  case true =>
    go_enter Try.func20, Try.ntmps20
    go_wp2_with fail
    all_goals
      go_ret
      exact ⟨by rw [← HR.out]; simp [*], by repeat (first | exact Below.refl _ _ | refine bl_alloc ?_ _ | refine bl_drew ?_)⟩
  go_enter Try.func20, Try.ntmps20
  go_wp2_with fail
  all_goals first
    | (go_ret; exact ⟨by rw [← HR.out]; simp [*], by repeat (first | exact Below.refl _ _ | refine bl_alloc ?_ _ | refine bl_drew ?_)⟩)
    | skip
  refine calls_gen (fun W => Blk W w.heap.size 31 [.int .i64 kind, .int .i64 gsn, .int .i64 txn, .int .i64 prev, .int .i64 page, .string key, .bool bh, .string bs, .bool ah, .string sa, .int .i64 undo] ∧ Below w.heap.size w W) ⟨Blk.new' (by simp), bl_alloc (Below.refl _ _) _⟩ ?_
  rintro W ⟨hB, hbl⟩
  have HB := Sh.mk hB
  have HL := Sh.mk hbl
  clear hbl
  have x0 := hB.cell 0
  have x3 := hB.cell 3
  have x4 := hB.cell 4
  have x5 := hB.cell 5
  have x6 := hB.cell 6
  have x7 := hB.cell 7
  have x8 := hB.cell 8
  have x9 := hB.cell 9
  have x10 := hB.cell 10
  clear hB
  cases q
  case' false => cases d1 <;> cases d2
  case' true => cases d0
  all_goals
    go_wp2_with (first
      | (go_at_call 29; refine (page04_calls _ _).mono ?_; rw [HQ.out]; rintro e w' ⟨rfl, rfl⟩)
      | (go_at_call 30; refine (key04_calls _ _).mono ?_; rintro e w' ⟨rfl, rfl⟩)
      | (go_at_call 31; have HB2 := HB1; refine (val04_calls ⟨_, _⟩ _).mono ?_; rintro e w2 ⟨rfl, hb2⟩; have hB := HB2.out.below hb2; have y0 := hB.cell 0; have y3 := hB.cell 3; have y6 := hB.cell 6; have y7 := hB.cell 7; have y8 := hB.cell 8; have y9 := hB.cell 9; have y10 := hB.cell 10; clear hB)
      | (go_at_call 31; refine (val04_calls ⟨_, _⟩ _).mono ?_; rintro e w1 ⟨rfl, hb1⟩; have hB := HB.out.below hb1; have z0 := hB.cell 0; have z3 := hB.cell 3; have z6 := hB.cell 6; have z7 := hB.cell 7; have z8 := hB.cell 8; have z9 := hB.cell 9; have z10 := hB.cell 10; have HB1 := Sh.mk hB; clear hB))
    all_goals
      go_ret
      refine ⟨?_, by have h0 := HL.out; repeat (first | exact h0 | refine below_then ?_ (by exact Below.size (by assumption)) (by assumption) | refine below_trans ?_ (by assumption) | refine bl_alloc ?_ _ | refine bl_drew ?_)⟩
      rw [← HR.out]
      simp only [toList_nil_iff] at *
      simp [*]
      try (rw [decide_eq_false (by omega : ¬ kind < 1), decide_eq_false (by omega : ¬ 6 < kind), decide_eq_false (by omega : ¬ txn < 1), decide_eq_false (by omega : ¬ 2147483647 < txn), decide_eq_false (by omega : ¬ gsn < 1), decide_eq_false (by omega : ¬ 4611686018427387903 < gsn), decide_eq_false (by omega : ¬ prev < 0), decide_eq_false (by omega : ¬ gsn ≤ prev)])
      try (rw [decide_eq_false (by omega : ¬ page < 0), decide_eq_false (by omega : ¬ 63 < page)])
      try simp
      try omega
end Go.Proofs.Ytbjpilnlkmajpaa

