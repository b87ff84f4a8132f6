import Derived.Test.YtbjpilnlkmajpaaTake
namespace Go.Proofs.Ytbjpilnlkmajpaa
set_option linter.unusedVariables false
set_option linter.unusedSimpArgs false
open Go.RowKit Go.Maps Go.Proofs.K

theorem may_rep (p N M : Nat) (F : Nat → Prop) (s : RS) (x : BR) (w : World) (hs : IsRep w p N M F s) (hwx : (Lit.int .i64 x.r.txn).wf = true) :
    Calls Try.prog 23 #[.pointer (some ⟨p, 0, none⟩), .agg (encBR x).toArray] w fun e w' => e = .returned (.int .i64 (mayF s.gsn s.str (s.opn x.r.txn).isSome x)) ∧ Below w.heap.size w w' := by
  obtain ⟨bn, bo, O, h⟩ := hs
  rw [← h.same]
  exact may_calls p bn bo M s.gsn s.str O x w hwx h.blk h.opn
theorem may_open {g t : Int} {o : Bool} {x : BR} (h : mayF g t o x = 0) (hk : x.r.kind ≠ 1) : o = true := by
  unfold mayF at h
  cases o
  · have : (x.r.kind != 1) = true := by simp [hk]
    rw [this] at h
    split at h <;> simp at h
  · rfl

def takesF : RS → List BR → Nat × Int × RS
  | s, [] => (0, 0, s)
  | s, x :: l => if mayF s.gsn s.str (s.opn x.r.txn).isSome x = 0 then ((takesF (takeS s x) l).1 + 1, (takesF (takeS s x) l).2) else (0, mayF s.gsn s.str (s.opn x.r.txn).isSome x, s)
theorem takes_step {s sk : RS} {l : List BR} {k : Nat} (hk : k < l.length) {x : BR} (hx : x = l[k]) (h : takesF s l = (k + (takesF sk (l.drop k)).1, (takesF sk (l.drop k)).2)) (hm : mayF sk.gsn sk.str (sk.opn x.r.txn).isSome x = 0) :
    takesF s l = (k + 1 + (takesF (takeS sk x) (l.drop (k + 1))).1, (takesF (takeS sk x) (l.drop (k + 1))).2) := by
  rw [h, List.drop_eq_getElem_cons hk, ← hx]
  simp only [takesF, hm, if_true]
  rw [Nat.add_assoc, Nat.add_comm 1]
theorem takes_stop {s sk : RS} {l : List BR} {k : Nat} (hk : k < l.length) {x : BR} (hx : x = l[k]) (h : takesF s l = (k + (takesF sk (l.drop k)).1, (takesF sk (l.drop k)).2)) (hm : mayF sk.gsn sk.str (sk.opn x.r.txn).isSome x ≠ 0) :
    takesF s l = (k, mayF sk.gsn sk.str (sk.opn x.r.txn).isSome x, sk) := by
  rw [h, List.drop_eq_getElem_cons hk, ← hx]
  simp only [takesF, hm, if_false]
  rfl
theorem takes_end {s sk : RS} {l : List BR} (h : takesF s l = (l.length + (takesF sk (l.drop l.length)).1, (takesF sk (l.drop l.length)).2)) : takesF s l = (l.length, 0, sk) := by
  rw [h, List.drop_length]; rfl

set_option maxHeartbeats 2000000 in
set_option maxRecDepth 100000 in
theorem Take_calls (p N M : Nat) (F : Nat → Prop) (s : RS) (A : Option Addr) (c : Nat) (l : List BR) (w : World) (hs : IsRep w p N M F s) (hr : RowOf encBR 12 w A l) (hA : ∀ a, A = some a → ¬ F a.block)
    (hwf : ∀ x ∈ l, (Lit.int .i64 x.r.txn).wf = true ∧ x.r.key.size ≤ maxLen ∧ x.r.aft.s.size ≤ maxLen) (hN : N + l.length * (M + l.length) < maxLen) (hM : M + l.length ≤ 1000000000) :
    Calls Try.prog 10 #[.pointer (some ⟨p, 0, none⟩), .slice A l.length c] w fun e w' => e = .returned (.tuple #[.int .i64 (takesF s l).1, .int .i64 (takesF s l).2.1]) ∧ IsRep w' p (N + l.length * (M + l.length)) (M + l.length) (fun k => F k ∨ w.heap.size ≤ k) (takesF s l).2.2 ∧ Chg F w w' := by
  have hlen : l.length ≤ 9223372036854775807 := by omega
  have HS := Sh.mk hs
  have HR := Sh.mk hr
  have HA := Sh.mk hA
  have HW := Sh.mk hwf
  have HL := Sh.mk (And.intro hN hM)
  have HE0 := Sh.mk (show takesF s l = (0 + (takesF s (l.drop 0)).1, (takesF s (l.drop 0)).2) by simp)
  generalize hT : takesF s l = R at HE0 ⊢
  have HT := Sh.mk hT
  clear hT hs hr hA hwf hN hM
  go_enter Try.func10, Try.ntmps10
  go_wp2_with fail
  go_loopw [13] (fun i wr => ∃ (k : Nat) (sk : RS), k ≤ l.length ∧ i = .int .i64 k ∧ Sh (IsRep wr p (N + k * (M + l.length)) (M + k) (fun k => F k ∨ w.heap.size ≤ k) sk) ∧ Sh (Chg F w wr) ∧ Sh (takesF s l = (k + (takesF sk (l.drop k)).1, (takesF sk (l.drop k)).2))) (fun i _ => l.length - (intOf i).toNat)
  case atStart => exact ⟨0, s, Nat.zero_le _, rfl, ⟨HS.out.mono (by omega) (by omega) (fun k h => .inl h)⟩, ⟨Chg.refl _ _⟩, ⟨HT.out.trans HE0.out⟩⟩
  case round =>
    obtain ⟨k, sk, hk, rfl, HI, HC, HE⟩ := hrel
    by_cases hlt : k < l.length
    · obtain ⟨x, hx⟩ : ∃ x, x = l[k] := ⟨_, rfl⟩
      obtain ⟨b, off, rfl, hc⟩ := HR.out k hlt
      rw [← hx] at hc
      have HCC := Sh.mk (fun j v hv => HC.out.cell_of (hc j v hv) (show ¬ F b from HA.out _ rfl))
      have HX := Sh.mk hx
      have HWX := Sh.mk (HW.out x (hx ▸ List.getElem_mem hlt))
      clear hx hc
      have hc0 : wr.cell? ⟨b, off + k * 12, none⟩ = some (.int .i64 x.stream) := HCC.out 0 _ rfl
      have hc1 : wr.cell? ⟨b, off + k * 12 + 1, none⟩ = some (.int .i64 x.r.kind) := HCC.out 1 _ rfl
      have hc2 : wr.cell? ⟨b, off + k * 12 + 2, none⟩ = some (.int .i64 x.r.gsn) := HCC.out 2 _ rfl
      have hc3 : wr.cell? ⟨b, off + k * 12 + 3, none⟩ = some (.int .i64 x.r.txn) := HCC.out 3 _ rfl
      have hc4 : wr.cell? ⟨b, off + k * 12 + 4, none⟩ = some (.int .i64 x.r.prev) := HCC.out 4 _ rfl
      have hc5 : wr.cell? ⟨b, off + k * 12 + 5, none⟩ = some (.int .i64 x.r.page) := HCC.out 5 _ rfl
      have hc6 : wr.cell? ⟨b, off + k * 12 + 6, none⟩ = some (.string x.r.key) := HCC.out 6 _ rfl
      have hc7 : wr.cell? ⟨b, off + k * 12 + 7, none⟩ = some (.bool x.r.bef.has) := HCC.out 7 _ rfl
      have hc8 : wr.cell? ⟨b, off + k * 12 + 8, none⟩ = some (.string x.r.bef.s) := HCC.out 8 _ rfl
      have hc9 : wr.cell? ⟨b, off + k * 12 + 9, none⟩ = some (.bool x.r.aft.has) := HCC.out 9 _ rfl
      have hc10 : wr.cell? ⟨b, off + k * 12 + 10, none⟩ = some (.string x.r.aft.s) := HCC.out 10 _ rfl
      have hc11 : wr.cell? ⟨b, off + k * 12 + 11, none⟩ = some (.int .i64 x.r.undo) := HCC.out 11 _ rfl
      generalize hmv : mayF sk.gsn sk.str (sk.opn x.r.txn).isSome x = mv
      have HMV := Sh.mk hmv
      clear hmv
      go_wp2_with fail
      refine calls_gen (fun W => Blk W wr.heap.size 69 [.int .i64 x.stream, .int .i64 x.r.kind, .int .i64 x.r.gsn, .int .i64 x.r.txn, .int .i64 x.r.prev, .int .i64 x.r.page, .string x.r.key, .bool x.r.bef.has, .string x.r.bef.s, .bool x.r.aft.has, .string x.r.aft.s, .int .i64 x.r.undo] ∧ Chg (fun _ => False) wr W) ⟨Blk.new' rfl, (Chg.refl _ _).alloc _⟩ ?_
      rintro W ⟨hx, hcW⟩
      have HI1 := Sh.mk (HI.out.chg hcW (fun _ _ h => h))
      have HC1 := Sh.mk (HC.out.trans (hcW.mono (G := F) (fun _ _ h => h.elim)) (fun _ _ h => h))
      have e0 : W.cell? ⟨wr.heap.size, 0, none⟩ = some (.int .i64 x.stream) := hx.cell 0
      have e1 : W.cell? ⟨wr.heap.size, 1, none⟩ = some (.int .i64 x.r.kind) := hx.cell 1
      have e2 : W.cell? ⟨wr.heap.size, 2, none⟩ = some (.int .i64 x.r.gsn) := hx.cell 2
      have e3 : W.cell? ⟨wr.heap.size, 3, none⟩ = some (.int .i64 x.r.txn) := hx.cell 3
      have e4 : W.cell? ⟨wr.heap.size, 4, none⟩ = some (.int .i64 x.r.prev) := hx.cell 4
      have e5 : W.cell? ⟨wr.heap.size, 5, none⟩ = some (.int .i64 x.r.page) := hx.cell 5
      have e6 : W.cell? ⟨wr.heap.size, 6, none⟩ = some (.string x.r.key) := hx.cell 6
      have e7 : W.cell? ⟨wr.heap.size, 7, none⟩ = some (.bool x.r.bef.has) := hx.cell 7
      have e8 : W.cell? ⟨wr.heap.size, 8, none⟩ = some (.string x.r.bef.s) := hx.cell 8
      have e9 : W.cell? ⟨wr.heap.size, 9, none⟩ = some (.bool x.r.aft.has) := hx.cell 9
      have e10 : W.cell? ⟨wr.heap.size, 10, none⟩ = some (.string x.r.aft.s) := hx.cell 10
      have e11 : W.cell? ⟨wr.heap.size, 11, none⟩ = some (.int .i64 x.r.undo) := hx.cell 11
      clear hx hcW hc0 hc1 hc2 hc3 hc4 hc5 hc6 hc7 hc8 hc9 hc10 hc11
      refine (may_rep p _ _ _ sk x W HI1.out HWX.out.1).mono ?_
      rw [HMV.out]
      rintro e w1 ⟨rfl, hb1⟩
      have HI2 := Sh.mk (HI1.out.chg (Chg.of_below (F := fun _ => False) hb1) (fun _ _ h => h))
      have HC2 := Sh.mk (HC1.out.trans (Chg.of_below (F := F) hb1) (fun _ _ h => h))
      by_cases hz : mv = 0
      · subst hz
        have y0 := below_cell hb1 e0
        have y1 := below_cell hb1 e1
        have y2 := below_cell hb1 e2
        have y3 := below_cell hb1 e3
        have y4 := below_cell hb1 e4
        have y5 := below_cell hb1 e5
        have y6 := below_cell hb1 e6
        have y7 := below_cell hb1 e7
        have y8 := below_cell hb1 e8
        have y9 := below_cell hb1 e9
        have y10 := below_cell hb1 e10
        have y11 := below_cell hb1 e11
        clear hb1
        go_wp2_with fail
        have hq1 : (k + 1) * (M + l.length) = k * (M + l.length) + (M + l.length) := Nat.succ_mul _ _
        have hq2 : (k + 1) * (M + l.length) ≤ l.length * (M + l.length) := Nat.mul_le_mul_right _ (by omega)
        have hq3 := HL.out
        refine (take_calls p _ _ _ sk x w1 HI2.out (may_open HMV.out) HWX.out.1 HWX.out.2 (by omega) (by omega)).mono ?_
        rintro e w2 ⟨rfl, hI3, hC3⟩
        have hE3 := takes_step hlt HX.out HE.out HMV.out
        have hsz := HC2.out.size
        have HI4 := Sh.mk (hI3.mono (N' := N + (k + 1) * (M + l.length)) (M' := M + (k + 1)) (F' := fun k => F k ∨ w.heap.size ≤ k) (by omega) (by omega) (by rintro k ((h | h) | h); exact .inl h; exact .inr h; exact .inr (by omega)))
        have HC4 := Sh.mk (HC2.out.trans hC3 (by rintro k hk (h | h); exact h; omega))
        clear hI3 hC3 hsz hq1 hq2 hq3
        go_wp2_with fail
        go_roundw
        case rel => exact ⟨k + 1, takeS sk x, by omega, by go_num, HI4, HC4, ⟨hE3⟩⟩
        case measure => simp [intOf]; omega
      · have hz1 : (mv != 0) = true := by simp [hz]
        clear hb1
        go_wp2_with fail
        have hE3 := takes_stop hlt HX.out HE.out (HMV.out ▸ hz)
        rw [HMV.out, HT.out] at hE3
        have hq2 : k * (M + l.length) ≤ l.length * (M + l.length) := Nat.mul_le_mul_right _ (by omega)
        go_ret2
        subst hE3
        exact ⟨rfl, HI2.out.mono (by omega) (by omega) (fun _ h => h), HC2.out⟩
    · obtain rfl : k = l.length := by omega
      go_wp2_with fail
      have hE3 := takes_end HE.out
      rw [HT.out] at hE3
      go_ret2
      subst hE3
      exact ⟨rfl, HI.out, HC.out⟩
end Go.Proofs.Ytbjpilnlkmajpaa
