import Derived.Test.YtapjjhdopelpjaaSet4
namespace Go.Proofs.Ytapjjhdopelpjaa
set_option linter.unusedVariables false
set_option linter.unusedSimpArgs false
open Go.RowKit Go.Maps Go.Proofs.K

structure EV where
  txn : Int
  kind : Int
  key : ByteArray
deriving DecidableEq
def encEV (e : EV) : List Value := [.int .i64 e.txn, .int .i64 e.kind, .string e.key]
def endsF (e : EV) : Bool := e.kind == 3 || e.kind == 4
def clashF (e f : EV) : Bool := e.txn != f.txn && !endsF e && !endsF f && decide (e.key = f.key) && (e.kind == 2 || f.kind == 2)
theorem toList_inj {x y : ByteArray} : x.toList = y.toList ↔ x = y := by
  refine ⟨fun h => ?_, fun h => by rw [h]⟩
  rw [ByteArray.toList_eq, ByteArray.toList_eq] at h
  obtain ⟨⟨x⟩⟩ := x
  obtain ⟨⟨y⟩⟩ := y
  exact congrArg _ (congrArg _ h)

set_option maxHeartbeats 400000 in
theorem ends_calls (e : EV) (w : World) : Calls Try.prog 36 #[.agg #[.int .i64 e.txn, .int .i64 e.kind, .string e.key]] w fun r w' => r = .returned (.bool (endsF e)) ∧ Below w.heap.size w w' := by
  unfold endsF
  by_cases h1 : (e.kind == 3) = true
  · go_enter Try.func36, Try.ntmps36
    go_wp2
    go_ret
    exact ⟨by simp [h1], bl_alloc (Below.refl _ _) _⟩
  · have h2 : (e.kind == 3) = false := by simpa using h1
    clear h1
    go_enter Try.func36, Try.ntmps36
    go_wp2
    go_ret
    exact ⟨by simp [h2], bl_alloc (Below.refl _ _) _⟩

set_option maxHeartbeats 2000000 in
set_option maxRecDepth 100000 in
theorem clash_calls (e f : EV) (w : World) : Calls Try.prog 23 #[.agg #[.int .i64 e.txn, .int .i64 e.kind, .string e.key], .agg #[.int .i64 f.txn, .int .i64 f.kind, .string f.key]] w fun r w' => r = .returned (.bool (clashF e f)) ∧ Below w.heap.size w w' := by
  generalize hR : clashF e f = R
  unfold clashF at hR
  have HR := Sh.mk hR
  clear hR
  have HE := Sh.mk (fun W => ends_calls e W)
  have HF := Sh.mk (fun W => ends_calls f W)
  by_cases h1 : e.txn = f.txn
  · have d1 : (e.txn != f.txn) = false := by simp [h1]
    have H1 := Sh.mk d1
    clear h1
    go_enter Try.func23, Try.ntmps23
    go_wp2_with fail
    go_ret
    exact ⟨by rw [← HR.out, H1.out]; rfl, bl_alloc (bl_alloc (Below.refl _ _) _) _⟩
  have d1 : (e.txn != f.txn) = true := by simp [h1]
  have H1 := Sh.mk d1
  clear h1
  have HB0 : Sh (Blk ((w.alloc (.cells #[.int .i64 e.txn, .int .i64 e.kind, .string e.key] 53)).alloc (.cells #[.int .i64 f.txn, .int .i64 f.kind, .string f.key] 53)) w.heap.size 53 (encEV e) ∧ Blk ((w.alloc (.cells #[.int .i64 e.txn, .int .i64 e.kind, .string e.key] 53)).alloc (.cells #[.int .i64 f.txn, .int .i64 f.kind, .string f.key] 53)) (w.heap.size + 1) 53 (encEV f)) := ⟨(Blk.new' rfl).alloc _, Blk.new' (by simp)⟩
  go_enter Try.func23, Try.ntmps23
  go_wp2_with fail
  refine (HE.out _).mono ?_
  rintro r w1 ⟨rfl, hb1⟩
  have hL1 := below_trans (bl_alloc (bl_alloc (Below.refl _ _) _) _) hb1
  have hE1 := HB0.out.1.below hb1
  have hF1 := HB0.out.2.below hb1
  have HL := Sh.mk hL1
  have HB1 := Sh.mk (And.intro hE1 hF1)
  have x0 : w1.cell? ⟨w.heap.size + 1, 0, none⟩ = some (.int .i64 f.txn) := hF1.cell 0
  have x1 : w1.cell? ⟨w.heap.size + 1, 1, none⟩ = some (.int .i64 f.kind) := hF1.cell 1
  have x2 : w1.cell? ⟨w.heap.size + 1, 2, none⟩ = some (.string f.key) := hF1.cell 2
  clear hb1 hL1 hE1 hF1 HB0
  generalize hq : endsF e = q
  have HQ := Sh.mk hq
  clear hq
  cases q
  case true =>
    go_wp2_with fail
    go_ret
    exact ⟨by rw [← HR.out, H1.out, HQ.out]; rfl, HL.out⟩
  go_wp2_with fail
  refine (HF.out _).mono ?_
  rintro r w2 ⟨rfl, hb2⟩
  replace HL := Sh.mk (below_trans HL.out hb2)
  have hE2 := HB1.out.1.below hb2
  have hF2 := HB1.out.2.below hb2
  have e1 : w2.cell? ⟨w.heap.size, 1, none⟩ = some (.int .i64 e.kind) := hE2.cell 1
  have e2 : w2.cell? ⟨w.heap.size, 2, none⟩ = some (.string e.key) := hE2.cell 2
  have g1 : w2.cell? ⟨w.heap.size + 1, 1, none⟩ = some (.int .i64 f.kind) := hF2.cell 1
  have g2 : w2.cell? ⟨w.heap.size + 1, 2, none⟩ = some (.string f.key) := hF2.cell 2
  clear x0 x1 x2 hE2 hF2 HB1 hb2
  generalize hq : endsF f = q
  have HQ2 := Sh.mk hq
  clear hq
  cases q
  case true =>
    go_wp2_with fail
    go_ret
    exact ⟨by rw [← HR.out, H1.out, HQ.out, HQ2.out]; rfl, HL.out⟩
  by_cases hk : e.key = f.key
  case neg =>
    have hk2 : ¬ e.key.toList = f.key.toList := fun h => hk (toList_inj.1 h)
    have z1 : (e.key.toList == f.key.toList) = false := by simp [hk2]
    have HK := Sh.mk hk
    clear hk hk2
    go_wp2_with fail
    go_ret
    exact ⟨by rw [← HR.out]; simp [HK.out], HL.out⟩
  have z1 : (e.key.toList == f.key.toList) = true := by simp [hk]
  have HK := Sh.mk hk
  clear hk
  by_cases hk : e.kind = 2
  · have z2 : (e.kind == 2) = true := by simp [hk]
    clear hk
    go_wp2_with fail
    go_ret
    exact ⟨by rw [← HR.out, H1.out, HQ.out, HQ2.out]; simp [HK.out, z2], HL.out⟩
  · have z2 : (e.kind == 2) = false := by simp [hk]
    clear hk
    go_wp2_with fail
    go_ret
    exact ⟨by rw [← HR.out, H1.out, HQ.out, HQ2.out]; simp [HK.out, z2], HL.out⟩

def badF (e : EV) (s : List Int) : Bool := decide (e.kind < 1) || decide (4 < e.kind) || (endsF e && !decide (e.key.size = 0)) || s.contains e.txn
def endStep (s : List Int) (e : EV) : List Int := if endsF e = true then addS s e.txn else s
def rightGo : List EV → List Int → Bool
  | [], _ => true
  | e :: l, s => if badF e s = true then false else rightGo l (endStep s e)
def hRightF (l : List EV) : Bool := rightGo l []
theorem endStep_len (l : List EV) : ∀ s, (l.foldl endStep s).length ≤ s.length + l.length := by
  induction l with
  | nil => intro s; simp
  | cons e r ih =>
    intro s
    rw [List.foldl_cons]
    have h1 := ih (endStep s e)
    have h2 : (endStep s e).length ≤ s.length + 1 := by
      unfold endStep
      split
      · exact (addS_len s e.txn).1
      · omega
    simp only [List.length_cons]
    omega
theorem toList_empty (s : ByteArray) : s.toList.isEmpty = decide (s.size = 0) := by
  have : s.toList.length = s.size := by rw [ByteArray.toList_eq]; simp
  rw [← this]
  cases s.toList <;> simp

set_option maxHeartbeats 4000000 in
set_option maxRecDepth 100000 in
theorem hright_calls (A : Option Addr) (c : Nat) (l : List EV) (w : World) (hr : RowOf encEV 3 w A l) (hl : l.length ≤ 1000000) :
    Calls Try.prog 12 #[.slice A l.length c] w fun e w' => e = .returned (.bool (hRightF l)) ∧ Below w.heap.size w w' := by
  have HR := Sh.mk hr
  generalize hG : hRightF l = R
  have HG := Sh.mk hG
  have hl2 : l.length ≤ 9223372036854775807 := by omega
  clear hG hr
  go_enter Try.func12, Try.ntmps12
  go_wp2_with fail
  refine wp_gen (fun W => IsSet W w.heap.size (fun j => w.heap.size ≤ j) [] ∧ Below w.heap.size w W) ⟨(IsSet.new (Blk.new w 72 [.slice none 0 0])).mono (fun k h => by omega), bl_alloc (Below.refl _ _) _⟩ ?_
  rintro W0 ⟨hS0, hB0⟩
  have HS0 := Sh.mk hS0
  have HB0 := Sh.mk hB0
  clear hS0 hB0
  go_loopw [8] (fun i wr => ∃ k : Nat, k ≤ l.length ∧ i = .int .i64 k ∧ Sh (rightGo l [] = rightGo (l.drop k) ((l.take k).foldl endStep [])) ∧ Sh (IsSet wr w.heap.size (fun j => w.heap.size ≤ j) ((l.take k).foldl endStep [])) ∧ Sh (Below w.heap.size w wr)) (fun i _ => l.length - (intOf i).toNat)
  case atStart => exact ⟨0, Nat.zero_le _, rfl, ⟨rfl⟩, HS0, HB0⟩
  case round =>
    clear HS0 HB0 W0
    obtain ⟨k, hk, rfl, HP, HS, HB⟩ := hrel
    by_cases hlt : k < l.length
    · obtain ⟨x, hx⟩ : ∃ x, x = l[k] := ⟨_, rfl⟩
      obtain ⟨b, off, hAe, hc⟩ := HR.out k hlt
      subst hAe
      rw [← hx] at hc
      have c0 : wr.cell? ⟨b, off + k * 3, none⟩ = some (.int .i64 x.txn) := below_cell HB.out (hc 0 _ rfl)
      have c1 : wr.cell? ⟨b, off + k * 3 + 1, none⟩ = some (.int .i64 x.kind) := below_cell HB.out (hc 1 _ rfl)
      have c2 : wr.cell? ⟨b, off + k * 3 + 2, none⟩ = some (.string x.key) := below_cell HB.out (hc 2 _ rfl)
      have HFS := Sh.mk (foldl_succ endStep [] l k hlt hx)
      have hlen : ((l.take k).foldl endStep []).length ≤ 1000000 := by
        have h1 := endStep_len (l.take k) []
        have h2 := List.length_take_le k l
        simp only [List.length_nil] at h1
        omega
      have HLN := Sh.mk hlen
      rw [List.drop_eq_getElem_cons hlt, ← hx] at HP
      clear hx hc hlen
      generalize (l.take k).foldl endStep [] = s at HP HS HFS HLN
      have HE := Sh.mk (fun W => ends_calls x W)
      have HX : Sh (Blk (wr.alloc (.cells #[.int .i64 x.txn, .int .i64 x.kind, .string x.key] 53)) wr.heap.size 53 (encEV x)) := ⟨Blk.new _ _ _⟩
      by_cases hk1 : x.kind < 1
      · have d1 : decide (x.kind < 1) = true := by simp [hk1]
        clear hk1
        go_wp2_with fail
        go_ret
        refine ⟨?_, bl_alloc HB.out _⟩
        have : hRightF l = false := by unfold hRightF; rw [HP.out]; simp only [rightGo]; rw [if_pos (by unfold badF; rw [d1]; rfl)]
        rw [← HG.out, this]
        rfl
      have d1 : decide (x.kind < 1) = false := by simp; omega
      clear hk1
      by_cases hk4 : 4 < x.kind
      · have d2 : decide (4 < x.kind) = true := by simp [hk4]
        clear hk4
        go_wp2_with fail
        go_ret
        refine ⟨?_, bl_alloc HB.out _⟩
        have : hRightF l = false := by unfold hRightF; rw [HP.out]; simp only [rightGo]; rw [if_pos (by unfold badF; rw [d2]; simp)]
        rw [← HG.out, this]
        rfl
      have d2 : decide (4 < x.kind) = false := by simp; omega
      clear hk4
      go_wp2_with fail
      refine (HE.out _).mono ?_
      rintro r w1 ⟨rfl, hb1⟩
      have hba := below_trans (bl_alloc (Below.refl _ _) (.cells #[.int .i64 x.txn, .int .i64 x.kind, .string x.key] 53)) hb1
      have hX1 := HX.out.below hb1
      have HX1 := Sh.mk hX1
      have HS1 := Sh.mk (HS.out.below hba)
      have HB1 := Sh.mk (below_trans HB.out (by exact hba))
      have x0 : w1.cell? ⟨wr.heap.size, 0, none⟩ = some (.int .i64 x.txn) := hX1.cell 0
      have x1 : w1.cell? ⟨wr.heap.size, 1, none⟩ = some (.int .i64 x.kind) := hX1.cell 1
      have x2 : w1.cell? ⟨wr.heap.size, 2, none⟩ = some (.string x.key) := hX1.cell 2
      have hlt1 := hX1.lt
      clear hb1 hba hX1 HX HS HB c0 c1 c2
      generalize hq : endsF x = q
      have HQ := Sh.mk hq
      clear hq
      have hne1 : ¬ wr.heap.size = w1.heap.size := by omega
      cases q
      case true =>
        by_cases hke : x.key.size = 0
        case neg =>
          have z1 : x.key.toList.isEmpty = false := by rw [toList_empty]; simp [hke]
          have HK := Sh.mk hke
          clear hke
          go_wp2_with fail
          go_ret
          refine ⟨?_, HB1.out⟩
          have : hRightF l = false := by unfold hRightF; rw [HP.out]; simp only [rightGo]; rw [if_pos (by unfold badF; rw [HQ.out]; simp [HK.out])]
          rw [← HG.out, this]
          rfl
        have z1 : x.key.toList.isEmpty = true := by rw [toList_empty]; simp [hke]
        have HK := Sh.mk hke
        clear hke
        go_wp2_with fail
        have hSa := HS1.out.below (bl_alloc (Below.refl _ _) (.cells #[.int .i64 x.txn] 3))
        refine (SHas_calls w.heap.size _ s (some ⟨w1.heap.size, 0, none⟩) 1 [x.txn] _ hSa (by exact Blk.row (enc := encInt) (x := x.txn) (sz := 1) (Blk.new w1 3 [.int .i64 x.txn])) (by have := HLN.out; omega) (by simp)).mono ?_
        rintro r w2 ⟨rfl, hb2⟩
        have hb2' := below_trans (bl_alloc (Below.refl _ _) (.cells #[.int .i64 x.txn] 3)) hb2
        have hX2 := HX1.out.below hb2'
        have HX2 := Sh.mk hX2
        have HS2 := Sh.mk (HS1.out.below hb2')
        have HB2 := Sh.mk (below_trans HB1.out hb2')
        have y0 : w2.cell? ⟨wr.heap.size, 0, none⟩ = some (.int .i64 x.txn) := hX2.cell 0
        have y1 : w2.cell? ⟨wr.heap.size, 1, none⟩ = some (.int .i64 x.kind) := hX2.cell 1
        have y2 : w2.cell? ⟨wr.heap.size, 2, none⟩ = some (.string x.key) := hX2.cell 2
        have hlt2 := hX2.lt
        clear hSa hb2 hb2' hX2 HX1 HS1 HB1 x0 x1 x2
        rw [show [x.txn].all s.contains = s.contains x.txn by simp]
        generalize hq : s.contains x.txn = q
        have HQ2 := Sh.mk hq
        clear hq
        cases q
        case true =>
          go_wp2_with fail
          go_ret
          refine ⟨?_, HB2.out⟩
          have : hRightF l = false := by unfold hRightF; rw [HP.out]; simp only [rightGo]; rw [if_pos (by unfold badF; rw [HQ2.out]; simp)]
          rw [← HG.out, this]
          rfl
        have HN := Sh.mk (show badF x s = false by unfold badF; rw [d1, d2, HQ2.out, HK.out]; simp)
        go_wp2_with fail
        refine (HE.out _).mono ?_
        rw [HQ.out]
        rintro r w3 ⟨rfl, hb3⟩
        have hX3 := HX2.out.below hb3
        have HX3 := Sh.mk hX3
        have HS3 := Sh.mk (HS2.out.below hb3)
        have HB3 := Sh.mk (below_trans HB2.out hb3)
        have v0 : w3.cell? ⟨wr.heap.size, 0, none⟩ = some (.int .i64 x.txn) := hX3.cell 0
        have hlt3 := hX3.lt
        clear hb3 hX3 HX2 HS2 HB2 y0 y1 y2
        have hne3 : ¬ wr.heap.size = w3.heap.size := by omega
        go_wp2_with fail
        have hSb := HS3.out.tight.below (bl_alloc (Below.refl _ _) (.cells #[.int .i64 x.txn] 3))
        have hbc := bl_alloc HB3.out (.cells #[.int .i64 x.txn] 3)
        refine (SAdd_calls w.heap.size _ s (some ⟨w3.heap.size, 0, none⟩) 1 [x.txn] _ hSb (by exact Blk.row (enc := encInt) (x := x.txn) (sz := 1) (Blk.new w3 3 [.int .i64 x.txn])) (fun a ha hF => by injection ha with ha; subst ha; have := hF.2; dsimp only at this; omega) (by have := HLN.out; simp; omega)).mono ?_
        rintro r w4 ⟨rfl, hS4, hc4⟩
        have h3w := HB3.out.size
        have HS4 := Sh.mk (show IsSet w4 w.heap.size (fun j => w.heap.size ≤ j) (endStep s x) by
          have e : endStep s x = addL s [x.txn] := by unfold endStep; rw [HQ.out]; rfl
          rw [e]
          exact hS4.mono (fun k h => by rcases h with h | h; exact h.1; simp at h; omega))
        have HB4 := Sh.mk (((Chg.of_below (F := fun k => w.heap.size ≤ k) hbc).trans hc4 (fun k _ h => h.1)).below (fun k hk e => by omega))
        clear hSb hbc hS4 hc4 v0 HS3 HB3 HX3
        go_wp2_with fail
        go_roundw
        case rel => exact ⟨k + 1, by omega, by go_num, ⟨by rw [HP.out, HFS.out]; simp only [rightGo]; rw [if_neg (by rw [HN.out]; decide)]⟩, ⟨by rw [HFS.out]; exact HS4.out⟩, HB4⟩
        case measure => simp [intOf]; omega
      case false =>
        go_wp2_with fail
        have hSa := HS1.out.below (bl_alloc (Below.refl _ _) (.cells #[.int .i64 x.txn] 3))
        refine (SHas_calls w.heap.size _ s (some ⟨w1.heap.size, 0, none⟩) 1 [x.txn] _ hSa (by exact Blk.row (enc := encInt) (x := x.txn) (sz := 1) (Blk.new w1 3 [.int .i64 x.txn])) (by have := HLN.out; omega) (by simp)).mono ?_
        rintro r w2 ⟨rfl, hb2⟩
        have hb2' := below_trans (bl_alloc (Below.refl _ _) (.cells #[.int .i64 x.txn] 3)) hb2
        have hX2 := HX1.out.below hb2'
        have HX2 := Sh.mk hX2
        have HS2 := Sh.mk (HS1.out.below hb2')
        have HB2 := Sh.mk (below_trans HB1.out hb2')
        have y0 : w2.cell? ⟨wr.heap.size, 0, none⟩ = some (.int .i64 x.txn) := hX2.cell 0
        have y1 : w2.cell? ⟨wr.heap.size, 1, none⟩ = some (.int .i64 x.kind) := hX2.cell 1
        have y2 : w2.cell? ⟨wr.heap.size, 2, none⟩ = some (.string x.key) := hX2.cell 2
        clear hSa hb2 hb2' hX2 HX1 HS1 HB1 x0 x1 x2
        rw [show [x.txn].all s.contains = s.contains x.txn by simp]
        generalize hq : s.contains x.txn = q
        have HQ2 := Sh.mk hq
        clear hq
        cases q
        case true =>
          go_wp2_with fail
          go_ret
          refine ⟨?_, HB2.out⟩
          have : hRightF l = false := by unfold hRightF; rw [HP.out]; simp only [rightGo]; rw [if_pos (by unfold badF; rw [HQ2.out]; simp)]
          rw [← HG.out, this]
          rfl
        have HN := Sh.mk (show badF x s = false by unfold badF; rw [d1, d2, HQ2.out, HQ.out]; simp)
        go_wp2_with fail
        refine (HE.out _).mono ?_
        rw [HQ.out]
        rintro r w3 ⟨rfl, hb3⟩
        have HS3 := Sh.mk (show IsSet w3 w.heap.size (fun j => w.heap.size ≤ j) (endStep s x) by
          have e : endStep s x = s := by unfold endStep; rw [HQ.out]; rfl
          rw [e]
          exact HS2.out.below hb3)
        have HB3 := Sh.mk (below_trans HB2.out hb3)
        clear hb3 HX2 HS2 HB2 y0 y1 y2
        go_wp2_with fail
        go_roundw
        case rel => exact ⟨k + 1, by omega, by go_num, ⟨by rw [HP.out, HFS.out]; simp only [rightGo]; rw [if_neg (by rw [HN.out]; decide)]⟩, ⟨by rw [HFS.out]; exact HS3.out⟩, HB3⟩
        case measure => simp [intOf]; omega
    · obtain rfl : k = l.length := by omega
      go_wp2_with fail
      go_ret
      refine ⟨?_, HB.out⟩
      have h := HP.out
      rw [List.drop_length] at h
      rw [← HG.out]
      unfold hRightF
      rw [h]
      rfl
end Go.Proofs.Ytapjjhdopelpjaa
