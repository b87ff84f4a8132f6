import Derived.Test.YtbjpilnlkmajpaaGreatAwk
namespace Go.Proofs.YtbjpilnlkmajpaaGreat
set_option linter.unusedVariables false
set_option linter.unusedSimpArgs false
open Go.RowKit Go.Maps Go.Proofs.K

set_option maxHeartbeats 400000 in
theorem nil_Take (v : Value) (w : World) : Calls Tryz.prog 6 #[.pointer none, v] w fun e w' => e = .returned (.tuple #[.int .i64 0, .int .i64 1]) ∧ w = w' := by
  go_enter Tryz.func6, Tryz.ntmps6
  go_wp2_with fail
  go_ret2
  exact ⟨rfl, rfl⟩
set_option maxHeartbeats 400000 in
theorem nil_Follow (v : Value) (w : World) (hv : v = .pointer none ∨ ∃ p, v = .pointer (some ⟨p, 0, none⟩)) : Calls Tryz.prog 8 #[v, .pointer none] w fun e w' => e = .returned (.tuple #[.int .i64 0, .int .i64 1]) ∧ w = w' := by
  rcases hv with rfl | ⟨p, rfl⟩
  all_goals
    go_enter Tryz.func8, Tryz.ntmps8
    go_wp2_with fail
    go_ret2
    exact ⟨rfl, rfl⟩
set_option maxHeartbeats 400000 in
theorem nil_Place (w : World) : Calls Tryz.prog 10 #[.pointer none] w fun e w' => e = .returned (.tuple #[.int .i64 0, .int .i64 0]) ∧ w = w' := by
  go_enter Tryz.func10, Tryz.ntmps10
  go_wp2_with fail
  go_ret2
  exact ⟨rfl, rfl⟩
set_option maxHeartbeats 400000 in
theorem nil_Cells (w : World) : Calls Tryz.prog 11 #[.pointer none] w fun e w' => e = .returned (.slice none 0 0) ∧ w = w' := by
  go_enter Tryz.func11, Tryz.ntmps11
  go_wp2_with fail
  go_ret
  exact ⟨rfl, rfl⟩
set_option maxHeartbeats 400000 in
theorem nil_Get (s : ByteArray) (w : World) : Calls Tryz.prog 12 #[.pointer none, .string s] w fun e w' => e = .returned (.agg #[.bool false, .string ⟨#[]⟩]) ∧ Below w.heap.size w w' := by
  go_enter Tryz.func12, Tryz.ntmps12
  go_wp2_with fail
  exact bodyPost_ret (v := .agg #[.bool false, .string ⟨#[]⟩]) (by simp [results, Tryz.results12, go_sem]) rfl ⟨rfl, by repeat (first | exact Below.refl _ _ | refine bl_alloc ?_ _)⟩
set_option maxHeartbeats 400000 in
theorem nil_Open (w : World) : Calls Tryz.prog 13 #[.pointer none] w fun e w' => e = .returned (.slice none 0 0) ∧ w = w' := by
  go_enter Tryz.func13, Tryz.ntmps13
  go_wp2_with fail
  go_ret
  exact ⟨rfl, rfl⟩
set_option maxHeartbeats 400000 in
theorem nil_Behind (w : World) : Calls Tryz.prog 14 #[.pointer none, .pointer none] w fun e w' => e = .returned (.int .i64 0) ∧ w = w' := by
  go_enter Tryz.func14, Tryz.ntmps14
  go_wp2_with fail
  go_ret
  exact ⟨rfl, rfl⟩
end Go.Proofs.YtbjpilnlkmajpaaGreat
