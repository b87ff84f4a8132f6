import Derived.Test.YtbjpilnlkmajpaaRef1
import Derived.Laws.StructEq
namespace Go.Proofs.Ytbjpilnlkmajpaa
set_option linter.unusedVariables false
set_option linter.unusedSimpArgs false
open Go.RowKit Go.Maps Go.Proofs.K

theorem neC (x y : CL) (w : World) :
    (binOp .neq 39 (.agg #[.string x.key, .string x.val]) (.agg #[.string y.key, .string y.val])).run Try.prog w = .ok (.bool (!decide (x = y))) w := by
  have hu := Try.underlying39
  have hS : Try.prog.underlying 39 = some (.struct (Try.prog.fieldsOf 39)) := by kernel_rfl
  have hp : Try.prog.stoodInHeld 39 = false := by kernel_rfl
  rw [run_neq_struct, show (10000 : Nat) = 9999 + 1 from rfl, run_equalIn_agg w 9999 39 _ _ hS hp]
  simp only [Program.fieldsOf, hu]
  obtain ⟨xh, xs⟩ := x
  obtain ⟨yh, ys⟩ := y
  go_simp
  by_cases h1 : xh = yh <;> by_cases h2 : xs = ys <;> simp [h1, h2, toList_beq, toList_inj]

set_option maxHeartbeats 2000000 in
set_option maxRecDepth 100000 in
theorem cells_calls (A A2 : Option Addr) (c c2 : Nat) (l l2 : List CL) (w : World) (hr : RowOf encCell 2 w A l) (hr2 : RowOf encCell 2 w A2 l2) (hl : l.length ≤ 9223372036854775807) (hl2 : l2.length ≤ 9223372036854775807) :
    Calls Try.prog 13 #[.slice A l.length c, .slice A2 l2.length c2] w fun e w' => e = .returned (.bool (decide (l = l2))) ∧ Below w.heap.size w w' := by
  have HR := Sh.mk hr
  have HR2 := Sh.mk hr2
  generalize hG : decide (l = l2) = R
  have HG := Sh.mk hG
  clear hG hr hr2
  go_enter Try.func13, Try.ntmps13
  by_cases hgr : l.length = l2.length
  · have hq1 : ((l.length : Int) != (l2.length : Int)) = false := by simp; omega
    go_wp2_with fail
    go_loopw [5] (fun i wr => ∃ k : Nat, k ≤ l.length ∧ i = .int .i64 k ∧ Below w.heap.size w wr ∧ Sh (l.take k = l2.take k)) (fun i _ => l.length - (intOf i).toNat)
    case atStart => exact ⟨0, Nat.zero_le _, rfl, Below.refl _ _, ⟨rfl⟩⟩
    case round =>
      obtain ⟨k, hk, rfl, hbw, HA⟩ := hrel
      by_cases hlt : k < l.length
      · obtain ⟨x, hx⟩ : ∃ x, x = l[k] := ⟨_, rfl⟩
        obtain ⟨y, hy⟩ : ∃ y, y = l2[k]'(by omega) := ⟨_, rfl⟩
        obtain ⟨b, off, rfl, hc⟩ := HR.out k hlt
        obtain ⟨b2, off2, rfl, hcc⟩ := HR2.out k (by omega)
        rw [← hx] at hc
        rw [← hy] at hcc
        have hc0 : wr.cell? ⟨b, off + k * 2, none⟩ = some (.string x.key) := below_cell hbw (hc 0 _ rfl)
        have hd0 : wr.cell? ⟨b2, off2 + k * 2, none⟩ = some (.string y.key) := below_cell hbw (hcc 0 _ rfl)
        have hc1 : wr.cell? ⟨b, off + k * 2 + 1, none⟩ = some (.string x.val) := below_cell hbw (hc 1 _ rfl)
        have hd1 : wr.cell? ⟨b2, off2 + k * 2 + 1, none⟩ = some (.string y.val) := below_cell hbw (hcc 1 _ rfl)
        have HX := Sh.mk (And.intro hx hy)
        clear hx hc hy hcc
        have hlt2 : k < l2.length := by omega
        have ev := fun W => neC x y W
        by_cases hxy : x = y
        · rw [show decide (x = y) = true from by simp [hxy]] at ev
          have HE := Sh.mk hxy
          clear hxy
          go_wp2_with fail
          go_quiet (fail)
          go_wp2_with fail
          go_roundw
          case rel => exact ⟨k + 1, by omega, by go_num, bl_drewN hbw _, ⟨by rw [List.take_succ_eq_append_getElem hlt, List.take_succ_eq_append_getElem hlt2, HA.out, ← HX.out.1, ← HX.out.2, HE.out]⟩⟩
          case measure => simp [intOf]; omega
        · rw [show decide (x = y) = false from by simp [hxy]] at ev
          have HE := Sh.mk hxy
          clear hxy
          go_wp2_with fail
          go_quiet (fail)
          go_wp2_with fail
          go_ret
          refine ⟨?_, bl_drewN hbw _⟩
          rw [← HG.out]
          have hne : ¬ l = l2 := fun e => HE.out (by rw [HX.out.1, HX.out.2]; simp only [e])
          simp [hne]
      · obtain rfl : k = l.length := by omega
        go_wp2_with fail
        go_ret
        refine ⟨?_, hbw⟩
        rw [← HG.out]
        have he : l = l2 := by have h := HA.out; rw [List.take_length, hgr, List.take_length] at h; exact h
        simp [he]
  · have hq1 : ((l.length : Int) != (l2.length : Int)) = true := by simp; omega
    go_wp2_with fail
    go_ret
    refine ⟨?_, Below.refl _ _⟩
    rw [← HG.out]
    have hne : ¬ l = l2 := fun e => hgr (by rw [e])
    simp [hne]

set_option maxHeartbeats 2000000 in
set_option maxRecDepth 100000 in
theorem same_calls (A A2 : Option Addr) (c c2 : Nat) (l l2 : List Int) (w : World) (hr : RowOf encInt 1 w A l) (hr2 : RowOf encInt 1 w A2 l2) (hl : l.length ≤ 9223372036854775807) (hl2 : l2.length ≤ 9223372036854775807) :
    Calls Try.prog 15 #[.slice A l.length c, .slice A2 l2.length c2] w fun e w' => e = .returned (.bool (decide (l = l2))) ∧ Below w.heap.size w w' := by
  have HR := Sh.mk hr
  have HR2 := Sh.mk hr2
  generalize hG : decide (l = l2) = R
  have HG := Sh.mk hG
  clear hG hr hr2
  go_enter Try.func15, Try.ntmps15
  by_cases hgr : l.length = l2.length
  · have hq1 : ((l.length : Int) != (l2.length : Int)) = false := by simp; omega
    go_wp2_with fail
    go_loopw [5] (fun i wr => ∃ k : Nat, k ≤ l.length ∧ i = .int .i64 k ∧ Below w.heap.size w wr ∧ Sh (l.take k = l2.take k)) (fun i _ => l.length - (intOf i).toNat)
    case atStart => exact ⟨0, Nat.zero_le _, rfl, Below.refl _ _, ⟨rfl⟩⟩
    case round =>
      obtain ⟨k, hk, rfl, hbw, HA⟩ := hrel
      by_cases hlt : k < l.length
      · obtain ⟨x, hx⟩ : ∃ x, x = l[k] := ⟨_, rfl⟩
        obtain ⟨y, hy⟩ : ∃ y, y = l2[k]'(by omega) := ⟨_, rfl⟩
        obtain ⟨b, off, rfl, hc⟩ := HR.out k hlt
        obtain ⟨b2, off2, rfl, hcc⟩ := HR2.out k (by omega)
        rw [← hx] at hc
        rw [← hy] at hcc
        have hc0 : wr.cell? ⟨b, off + k * 1, none⟩ = some (.int .i64 x) := below_cell hbw (hc 0 _ rfl)
        have hd0 : wr.cell? ⟨b2, off2 + k * 1, none⟩ = some (.int .i64 y) := below_cell hbw (hcc 0 _ rfl)
        rw [Nat.mul_one] at hc0 hd0
        have HX := Sh.mk (And.intro hx hy)
        clear hx hc hy hcc
        have hlt2 : k < l2.length := by omega
        by_cases hxy : x = y
        · have hz : (x != y) = false := by simp [hxy]
          have HE := Sh.mk hxy
          clear hxy
          go_wp2_with fail
          go_quiet (fail)
          go_wp2_with fail
          go_roundw
          case rel => exact ⟨k + 1, by omega, by go_num, bl_drewN hbw _, ⟨by rw [List.take_succ_eq_append_getElem hlt, List.take_succ_eq_append_getElem hlt2, HA.out, ← HX.out.1, ← HX.out.2, HE.out]⟩⟩
          case measure => simp [intOf]; omega
        · have hz : (x != y) = true := by simp [hxy]
          have HE := Sh.mk hxy
          clear hxy
          go_wp2_with fail
          go_quiet (fail)
          go_wp2_with fail
          go_ret
          refine ⟨?_, bl_drewN hbw _⟩
          rw [← HG.out]
          have hne : ¬ l = l2 := fun e => HE.out (by rw [HX.out.1, HX.out.2]; simp only [e])
          simp [hne]
      · obtain rfl : k = l.length := by omega
        go_wp2_with fail
        go_ret
        refine ⟨?_, hbw⟩
        rw [← HG.out]
        have he : l = l2 := by have h := HA.out; rw [List.take_length, hgr, List.take_length] at h; exact h
        simp [he]
  · have hq1 : ((l.length : Int) != (l2.length : Int)) = true := by simp; omega
    go_wp2_with fail
    go_ret
    refine ⟨?_, Below.refl _ _⟩
    rw [← HG.out]
    have hne : ¬ l = l2 := fun e => hgr (by rw [e])
    simp [hne]
end Go.Proofs.Ytbjpilnlkmajpaa
