import Derived.Test.YtapjjhdopelpjaaHis4
namespace Go.Proofs.Ytapjjhdopelpjaa
set_option linter.unusedVariables false
set_option linter.unusedSimpArgs false
open Go.RowKit Go.Maps Go.Proofs.K

def strictIn (e : EV) : List EV → Bool
  | [] => true
  | f :: r => if (f.txn == e.txn && endsF f) = true then true else if clashF e f = true then false else strictIn e r
def strictGo : List EV → Bool
  | [] => true
  | e :: r => (if e.kind = 2 then strictIn e r else true) && strictGo r
def hStrictF (l : List EV) : Bool := hRightF l && strictGo l
/-- What holds in a round: the event's box. -/
structure EBX (w W : World) (p : Nat) (e : EV) : Prop where
  bx : Blk W p 53 (encEV e)
  bl : Below w.heap.size w W
section
variable {w W W1 : World} {p : Nat} {e : EV}
theorem EBX.x0 (h : EBX w W p e) : W.cell? ⟨p, 0, none⟩ = some (.int .i64 e.txn) := h.bx.cell 0
theorem EBX.x1 (h : EBX w W p e) : W.cell? ⟨p, 1, none⟩ = some (.int .i64 e.kind) := h.bx.cell 1
theorem EBX.x2 (h : EBX w W p e) : W.cell? ⟨p, 2, none⟩ = some (.string e.key) := h.bx.cell 2
theorem EBX.below (h : EBX w W p e) (hb : Below W.heap.size W W1) : EBX w W1 p e := ⟨h.bx.below hb, below_trans h.bl hb⟩
end

set_option maxHeartbeats 8000000 in
set_option maxRecDepth 100000 in
theorem hstrict_calls (A : Option Addr) (c : Nat) (l : List EV) (w : World) (hr : RowOf encEV 3 w A l) (hl : l.length ≤ 1000000) (hlc : l.length ≤ c) (hcm : c ≤ maxLen) :
    Calls Try.prog 14 #[.slice A l.length c] w fun e w' => e = .returned (.bool (hStrictF l)) ∧ Below w.heap.size w w' := by
  have HR := Sh.mk hr
  have HRT := Sh.mk (hright_calls A c l w hr hl)
  have hm : l.length ≤ 9223372036854775807 := by omega
  have hG : hStrictF l = (hRightF l && strictGo l) := rfl
  generalize hStrictF l = R at hG
  generalize hRightF l = rt at HRT hG
  have HG := Sh.mk hG
  clear hr hG
  go_enter Try.func14, Try.ntmps14
  go_wp2_with fail
  refine HRT.out.mono ?_
  rintro e W0 ⟨rfl, hb0⟩
  have HB0 := Sh.mk hb0
  clear hb0 HRT
  cases rt
  · go_wp2_with fail
    go_ret
    refine ⟨?_, HB0.out⟩
    rw [HG.out]
    rfl
  have HG2 := Sh.mk (show R = strictGo l by rw [HG.out]; rfl)
  clear HG
  go_wp2_with fail
  go_loopw [12] (fun i wr => ∃ k : Nat, k ≤ l.length ∧ i = .int .i64 k ∧ Sh (R = strictGo (l.drop k)) ∧ Sh (Below w.heap.size w wr)) (fun i _ => l.length - (intOf i).toNat)
  case atStart => exact ⟨0, Nat.zero_le _, rfl, HG2, HB0⟩
  case round =>
    clear HB0 W0 HG2
    obtain ⟨k, hk, rfl, HP, HB⟩ := hrel
    obtain ⟨wo, rfl⟩ : ∃ wo, wo = wr := ⟨_, rfl⟩
    by_cases hlt : k < l.length
    · obtain ⟨x, hx⟩ : ∃ x, x = l[k] := ⟨_, rfl⟩
      obtain ⟨b, off, hAe, hc⟩ := HR.out k hlt
      subst hAe
      rw [← hx] at hc
      have c0 : wo.cell? ⟨b, off + k * 3, none⟩ = some (.int .i64 x.txn) := below_cell HB.out (hc 0 _ rfl)
      have c1 : wo.cell? ⟨b, off + k * 3 + 1, none⟩ = some (.int .i64 x.kind) := below_cell HB.out (hc 1 _ rfl)
      have c2 : wo.cell? ⟨b, off + k * 3 + 2, none⟩ = some (.string x.key) := below_cell HB.out (hc 2 _ rfl)
      rw [List.drop_eq_getElem_cons hlt, ← hx, strictGo] at HP
      clear hx hc
      by_cases h1 : x.kind = 2
      case neg =>
        have d1 : (x.kind != 2) = true := by simp [h1]
        rw [if_neg h1, Bool.true_and] at HP
        clear h1
        go_wp2_with fail
        go_roundw
        case rel => exact ⟨k + 1, by omega, by go_num, HP, ⟨bl_alloc HB.out _⟩⟩
        case measure => simp [intOf]; omega
      have d1 : (x.kind != 2) = false := by simp [h1]
      rw [if_pos h1] at HP
      clear h1
      have hlt2 : ((k : Int) + 1) ≤ (l.length : Int) := by omega
      obtain ⟨m, hmd⟩ : ∃ m, m = l.drop (k + 1) := ⟨_, rfl⟩
      have hml : l.length - (k + 1) = m.length := by rw [hmd, List.length_drop]
      rw [← hmd] at HP
      have HMD := Sh.mk hmd
      have hms : m.length ≤ 1000000 := by omega
      by_cases hcap : c = k + 1
      · subst hcap
        obtain rfl : m = [] := List.eq_nil_of_length_eq_zero (by omega)
        clear hmd
        go_wp2_with fail
        refine wp_gen (fun W => EBX w W wo.heap.size x) ⟨Blk.new _ _ _, bl_alloc HB.out _⟩ ?_
        intro W1 hT
        have HT := Sh.mk hT
        clear hT c0 c1 c2 HB
        go_loopw [25] (fun i wr => i = .int .i64 0 ∧ Sh (EBX w wr wo.heap.size x)) (fun i _ => 0)
        case atStart => exact ⟨rfl, HT⟩
        case round =>
          obtain ⟨rfl, HT⟩ := hrel
          go_wp2_with fail
          go_roundw
          case rel => exact ⟨k + 1, by omega, by go_num, ⟨by rw [HP.out, ← HMD.out]; rfl⟩, ⟨HT.out.bl⟩⟩
          case measure => simp [intOf]; omega
      have hRm := (HR.out.drop (k + 1)).imp (w1 := w) (fun _ _ h => h)
      rw [← hmd] at hRm
      have HRM := Sh.mk hRm
      clear hmd hRm
      go_wp2_with fail
      refine wp_gen (fun W => EBX w W wo.heap.size x) ⟨Blk.new _ _ _, bl_alloc HB.out _⟩ ?_
      intro W1 hT
      have HT := Sh.mk hT
      clear hT c0 c1 c2 HB
      go_loopw [25] (fun i wr => ∃ j : Nat, j ≤ m.length ∧ i = .int .i64 j ∧ Sh (R = (strictIn x (m.drop j) && strictGo m)) ∧ Sh (EBX w wr wo.heap.size x)) (fun i _ => m.length - (intOf i).toNat)
      case atStart => exact ⟨0, Nat.zero_le _, rfl, HP, HT⟩
      case round =>
        clear HP HT W1
        obtain ⟨j, hj, rfl, HP, HT⟩ := hrel
        by_cases hjl : j < m.length
        case neg =>
          obtain rfl : j = m.length := by omega
          go_wp2_with fail
          go_roundw
          case rel => exact ⟨k + 1, by omega, by go_num, ⟨by rw [HP.out, ← HMD.out, List.drop_length]; rfl⟩, ⟨HT.out.bl⟩⟩
          case measure => simp [intOf]; omega
        obtain ⟨y, hy⟩ : ∃ y, y = m[j] := ⟨_, rfl⟩
        obtain ⟨b2, off2, hAe, hc⟩ := HRM.out j hjl
        injection hAe with hAe
        injection hAe with hA1 hA2 _
        subst hA1 hA2
        rw [← hy] at hc
        have c0 : wr.cell? ⟨b, off + (k + 1) * 3 + j * 3, none⟩ = some (.int .i64 y.txn) := below_cell HT.out.bl (hc 0 _ rfl)
        have c1 : wr.cell? ⟨b, off + (k + 1) * 3 + j * 3 + 1, none⟩ = some (.int .i64 y.kind) := below_cell HT.out.bl (hc 1 _ rfl)
        have c2 : wr.cell? ⟨b, off + (k + 1) * 3 + j * 3 + 2, none⟩ = some (.string y.key) := below_cell HT.out.bl (hc 2 _ rfl)
        have x0 := HT.out.x0
        have x1 := HT.out.x1
        have x2 := HT.out.x2
        have hlw := HT.out.bx.lt
        have hne : ¬ wo.heap.size = wr.heap.size := by omega
        rw [List.drop_eq_getElem_cons hjl, ← hy, strictIn] at HP
        clear hy hc
        by_cases h1 : y.txn = x.txn
        · have d1 : (y.txn == x.txn) = true := by simp [h1]
          clear h1
          rw [d1, Bool.true_and] at HP
          have HY0 := Sh.mk (Blk.new wr 53 (encEV y))
          go_wp2_with fail
          refine (ends_calls y _).mono ?_
          rintro r w3 ⟨rfl, hb3⟩
          have HTn := Sh.mk (HT.out.below (below_trans (bl_alloc (Below.refl _ _) _) hb3))
          have hY3 : Blk w3 wr.heap.size 53 (encEV y) := HY0.out.below hb3
          have y0 : w3.cell? ⟨wr.heap.size, 0, none⟩ = some (.int .i64 y.txn) := hY3.cell 0
          have y1 : w3.cell? ⟨wr.heap.size, 1, none⟩ = some (.int .i64 y.kind) := hY3.cell 1
          have y2 : w3.cell? ⟨wr.heap.size, 2, none⟩ = some (.string y.key) := hY3.cell 2
          have z0 := HTn.out.x0
          have z1 := HTn.out.x1
          have z2 := HTn.out.x2
          clear hb3 hY3 HY0 HT x0 x1 x2 c0 c1 c2
          generalize hq : endsF y = q at HP
          clear hq
          cases q
          case true =>
            rw [if_pos rfl] at HP
            go_wp2_with fail
            go_roundw
            case rel => exact ⟨k + 1, by omega, by go_num, ⟨by rw [HP.out, ← HMD.out]; rfl⟩, ⟨HTn.out.bl⟩⟩
            case measure => simp [intOf]; omega
          rw [if_neg (by decide)] at HP
          go_wp2_with fail
          refine (clash_calls x y _).mono ?_
          rintro r w4 ⟨rfl, hb4⟩
          have HT4 := Sh.mk (HTn.out.below hb4)
          clear hb4 HTn
          generalize hq : clashF x y = q at HP
          cases q
          · go_wp2_with fail
            go_roundw
            case rel => exact ⟨j + 1, by omega, by go_num, ⟨by rw [HP.out, if_neg (by decide)]⟩, HT4⟩
            case measure => simp [intOf]; omega
          · go_wp2_with fail
            go_ret
            refine ⟨?_, HT4.out.bl⟩
            have e : R = false := HP.out
            rw [e]
            rfl
        · have d1 : (y.txn == x.txn) = false := by simp [h1]
          clear h1
          rw [d1, Bool.false_and, if_neg (by decide)] at HP
          have HTn := Sh.mk (HT.out.below (bl_alloc (Below.refl _ _) (.cells #[.int .i64 y.txn, .int .i64 y.kind, .string y.key] 53)))
          clear HT
          go_wp2_with fail
          refine (clash_calls x y _).mono ?_
          rintro r w4 ⟨rfl, hb4⟩
          have HT4 := Sh.mk (HTn.out.below hb4)
          clear hb4 HTn
          generalize hq : clashF x y = q at HP
          cases q
          · go_wp2_with fail
            go_roundw
            case rel => exact ⟨j + 1, by omega, by go_num, ⟨by rw [HP.out, if_neg (by decide)]⟩, HT4⟩
            case measure => simp [intOf]; omega
          · go_wp2_with fail
            go_ret
            refine ⟨?_, HT4.out.bl⟩
            have e : R = false := HP.out
            rw [e]
            rfl
    · obtain rfl : k = l.length := by omega
      go_wp2_with fail
      go_ret
      refine ⟨?_, HB.out⟩
      rw [HP.out, List.drop_length]
      rfl
end Go.Proofs.Ytapjjhdopelpjaa
