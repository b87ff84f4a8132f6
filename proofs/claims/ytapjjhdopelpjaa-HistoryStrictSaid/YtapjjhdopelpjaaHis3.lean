import Derived.Test.YtapjjhdopelpjaaHis2
import Derived.Test.YtapjjhdopelpjaaPred
import Derived.BigQuiet
import Derived.Laws.StructEq
namespace Go.Proofs.Ytapjjhdopelpjaa
set_option linter.unusedVariables false
set_option linter.unusedSimpArgs false
open Go.RowKit Go.Maps Go.Proofs.K

set_option maxHeartbeats 2000000 in
set_option maxRecDepth 100000 in
theorem indexEv_calls (A : Option Addr) (c : Nat) (l : List EV) (y : EV) (w : World) (hr : RowOf encEV 3 w A l) (hl : l.length ≤ 1000000) :
    Calls Try.prog 57 #[.slice A l.length c, .agg #[.int .i64 y.txn, .int .i64 y.kind, .string y.key]] w fun e w' => e = .returned (.int .i64 (idxF (fun x => decide (y = x)) l)) ∧ Below w.heap.size w w' := by
  have HR := Sh.mk hr
  have hm : l.length ≤ 9223372036854775807 := by omega
  clear hr
  go_enter Try.func57, Try.ntmps57
  go_wp2_with fail
  have hY0 : Blk (w.alloc (.cells #[.int .i64 y.txn, .int .i64 y.kind, .string y.key] 53)) w.heap.size 53 (encEV y) := Blk.new _ _ _
  refine wp_gen (fun W => Blk W w.heap.size 53 (encEV y) ∧ Below w.heap.size w W) ⟨hY0, bl_alloc (Below.refl _ _) _⟩ ?_
  rintro W0 ⟨hY, hB⟩
  have HY := Sh.mk hY
  have HB0 := Sh.mk hB
  clear hY hB hY0
  go_loopw [8] (fun i wr => ∃ k : Nat, k ≤ l.length ∧ i = .int .i64 k ∧ Sh (∀ j (hj : j < l.length), j < k → decide (y = l[j]) = false) ∧ Sh (Below w.heap.size w wr) ∧ Sh (Blk wr w.heap.size 53 (encEV y))) (fun i _ => l.length - (intOf i).toNat)
  case atStart => exact ⟨0, Nat.zero_le _, rfl, ⟨fun _ _ h => by omega⟩, HB0, HY⟩
  case round =>
    clear HY HB0 W0
    obtain ⟨k, hk, rfl, HN, HB, HY⟩ := hrel
    by_cases hlt : k < l.length
    · obtain ⟨x, hx⟩ : ∃ x, x = l[k] := ⟨_, rfl⟩
      obtain ⟨b, off, hAe, hc⟩ := HR.out k hlt
      subst hAe
      rw [← hx] at hc
      have HX := Sh.mk hx
      have c0 : wr.cell? ⟨b, off + k * 3, none⟩ = some (.int .i64 x.txn) := below_cell HB.out (hc 0 _ rfl)
      have c1 : wr.cell? ⟨b, off + k * 3 + 1, none⟩ = some (.int .i64 x.kind) := below_cell HB.out (hc 1 _ rfl)
      have c2 : wr.cell? ⟨b, off + k * 3 + 2, none⟩ = some (.string x.key) := below_cell HB.out (hc 2 _ rfl)
      have y0 : wr.cell? ⟨w.heap.size, 0, none⟩ = some (.int .i64 y.txn) := HY.out.cell 0
      have y1 : wr.cell? ⟨w.heap.size, 1, none⟩ = some (.int .i64 y.kind) := HY.out.cell 1
      have y2 : wr.cell? ⟨w.heap.size, 2, none⟩ = some (.string y.key) := HY.out.cell 2
      clear hx hc
      by_cases h1 : y.txn = x.txn
      case neg =>
        have d1 : (y.txn == x.txn) = false := by simp [h1]
        have hne : decide (y = x) = false := decide_eq_false (fun e => h1 (congrArg EV.txn e))
        have HNE := Sh.mk hne
        clear h1 hne
        go_wp2_with fail
        go_quiet (fail)
        go_wp2_with fail
        go_roundw
        case rel => exact ⟨k + 1, by omega, by go_num, ⟨ext_false (p := fun z => decide (y = z)) HN.out hlt (by rw [← HX.out]; exact HNE.out)⟩, ⟨bl_drewN HB.out _⟩, ⟨HY.out⟩⟩
        case measure => simp [intOf]; omega
      have d1 : (y.txn == x.txn) = true := by simp [h1]
      by_cases h2 : y.kind = x.kind
      case neg =>
        have d2 : (y.kind == x.kind) = false := by simp [h2]
        have hne : decide (y = x) = false := decide_eq_false (fun e => h2 (congrArg EV.kind e))
        have HNE := Sh.mk hne
        clear h1 h2 hne
        go_wp2_with fail
        go_quiet (fail)
        go_wp2_with fail
        go_roundw
        case rel => exact ⟨k + 1, by omega, by go_num, ⟨ext_false (p := fun z => decide (y = z)) HN.out hlt (by rw [← HX.out]; exact HNE.out)⟩, ⟨bl_drewN HB.out _⟩, ⟨HY.out⟩⟩
        case measure => simp [intOf]; omega
      have d2 : (y.kind == x.kind) = true := by simp [h2]
      by_cases h3 : y.key = x.key
      case neg =>
        have hk2 : ¬ y.key.toList = x.key.toList := fun h => h3 (toList_inj.1 h)
        have d3 : (y.key.toList == x.key.toList) = false := by simp [hk2]
        have hne : decide (y = x) = false := decide_eq_false (fun e => h3 (congrArg EV.key e))
        have HNE := Sh.mk hne
        clear h1 h2 h3 hk2 hne
        go_wp2_with fail
        go_quiet (fail)
        go_wp2_with fail
        go_roundw
        case rel => exact ⟨k + 1, by omega, by go_num, ⟨ext_false (p := fun z => decide (y = z)) HN.out hlt (by rw [← HX.out]; exact HNE.out)⟩, ⟨bl_drewN HB.out _⟩, ⟨HY.out⟩⟩
        case measure => simp [intOf]; omega
      have d3 : (y.key.toList == x.key.toList) = true := by simp [h3]
      have HEQ := Sh.mk (show decide (y = x) = true from decide_eq_true (by obtain ⟨a, b, c⟩ := y; obtain ⟨a', b', c'⟩ := x; simp_all))
      clear h1 h2 h3
      go_wp2_with fail
      go_quiet (fail)
      go_wp2_with fail
      go_ret
      exact ⟨by rw [idxF_hit (p := fun z => decide (y = z)) HN.out hlt (by rw [← HX.out]; exact HEQ.out)]; rfl, bl_drewN HB.out _⟩
    · obtain rfl : k = l.length := by omega
      go_wp2_with fail
      go_ret
      exact ⟨by rw [idxF_none (fun j hj => HN.out j hj (by omega))]; rfl, HB.out⟩
end Go.Proofs.Ytapjjhdopelpjaa
