import Derived.Test.YtbjpilnlkmajpaaCls
namespace Go.Proofs.Ytbjpilnlkmajpaa
set_option linter.unusedVariables false
set_option linter.unusedSimpArgs false
open Go.RowKit Go.Maps Go.Proofs.K

deriving instance DecidableEq for CL
def bigF (r : RC) : Bool := decide (100 < r.key.size) || decide (100 < r.bef.s.size) || decide (100 < r.aft.s.size)
def greatF (l : List RC) : Bool := decide (60 < l.length) || l.any bigF
theorem greatF_no {l : List RC} (h1 : l.length ≤ 60) (h2 : (l.take l.length).any bigF = false) : greatF l = false := by
  rw [List.take_length] at h2
  have : ¬ 60 < l.length := by omega
  simp [greatF, h2, this]
theorem greatF_yes {l : List RC} {k : Nat} (hk : k < l.length) {x : RC} (hx : x = l[k]) (h : bigF x = true) : greatF l = true := by
  have : l.any bigF = true := List.any_eq_true.2 ⟨x, hx ▸ List.getElem_mem hk, h⟩
  simp [greatF, this]
theorem any_succ {α : Type} {f : α → Bool} {l : List α} {k : Nat} (hk : k < l.length) {x : α} (hx : x = l[k]) (h : (l.take k).any f = false) (hf : f x = false) : (l.take (k + 1)).any f = false := by
  rw [List.take_succ_eq_append_getElem hk, List.any_append, h, ← hx]
  simp [hf]

set_option maxHeartbeats 2000000 in
set_option maxRecDepth 100000 in
theorem great17_calls (A : Option Addr) (c : Nat) (l : List RC) (w : World) (hr : RowOf encRec 11 w A l) (hl : l.length ≤ 9223372036854775807) :
    Calls Try.prog 18 #[.slice A l.length c] w fun e w' => e = .returned (.bool (greatF l)) ∧ w = w' := by
  have HR := Sh.mk hr
  generalize hG : greatF l = R
  have HG := Sh.mk hG
  have HN := Sh.mk (show (l.take 0).any bigF = false by simp)
  clear hG hr
  go_enter Try.func18, Try.ntmps18
  by_cases hgr : 60 < l.length
  · go_wp2_with fail
    go_ret
    exact ⟨by rw [← HG.out]; simp [greatF, hgr], rfl⟩
  · go_wp2_with fail
    go_loopw [3] (fun i wr => ∃ k : Nat, k ≤ l.length ∧ i = .int .i64 k ∧ w = wr ∧ Sh ((l.take k).any bigF = false)) (fun i _ => l.length - (intOf i).toNat)
    case atStart => exact ⟨0, Nat.zero_le _, rfl, rfl, HN⟩
    case round =>
      obtain ⟨k, hk, rfl, rfl, HA⟩ := hrel
      by_cases hlt : k < l.length
      · obtain ⟨x, hx⟩ : ∃ x, x = l[k] := ⟨_, rfl⟩
        obtain ⟨b, off, rfl, hc⟩ := HR.out k hlt
        rw [← hx] at hc
        have hc5 : w.cell? ⟨b, off + k * 11 + 5, none⟩ = some (.string x.key) := hc 5 _ rfl
        have hc7 : w.cell? ⟨b, off + k * 11 + 7, none⟩ = some (.string x.bef.s) := hc 7 _ rfl
        have hc9 : w.cell? ⟨b, off + k * 11 + 9, none⟩ = some (.string x.aft.s) := hc 9 _ rfl
        have HX := Sh.mk hx
        clear hx hc
        cases hb : bigF x
        · have HB := Sh.mk hb
          have h1 : decide ((100 : Int) < (x.key.size : Int)) = false := by simp [bigF] at hb; simp; omega
          have h2 : decide ((100 : Int) < (x.bef.s.size : Int)) = false := by simp [bigF] at hb; simp; omega
          have h3 : decide ((100 : Int) < (x.aft.s.size : Int)) = false := by simp [bigF] at hb; simp; omega
          clear hb
          go_wp2_with fail
          go_roundw
          case rel => exact ⟨k + 1, by omega, by go_num, by trivial, ⟨any_succ hlt HX.out HA.out HB.out⟩⟩
          case measure => simp [intOf]; omega
        · have HB := Sh.mk (greatF_yes hlt HX.out hb)
          have h0 : 100 < x.key.size ∨ 100 < x.bef.s.size ∨ 100 < x.aft.s.size := by simp [bigF] at hb; omega
          clear hb
          by_cases p1 : 100 < x.key.size
          · have h1 : decide ((100 : Int) < (x.key.size : Int)) = true := by simp; omega
            clear h0
            go_wp2_with fail
            go_ret
            exact ⟨by rw [← HG.out, HB.out]; rfl, rfl⟩
          · have h1 : decide ((100 : Int) < (x.key.size : Int)) = false := by simp; omega
            by_cases p2 : 100 < x.bef.s.size
            · have h2 : decide ((100 : Int) < (x.bef.s.size : Int)) = true := by simp; omega
              clear h0
              go_wp2_with fail
              go_ret
              exact ⟨by rw [← HG.out, HB.out]; rfl, rfl⟩
            · have h2 : decide ((100 : Int) < (x.bef.s.size : Int)) = false := by simp; omega
              have h3 : decide ((100 : Int) < (x.aft.s.size : Int)) = true := by simp; omega
              clear h0
              go_wp2_with fail
              go_ret
              exact ⟨by rw [← HG.out, HB.out]; rfl, rfl⟩
      · obtain rfl : k = l.length := by omega
        go_wp2_with fail
        go_ret
        exact ⟨by rw [← HG.out, greatF_no (by omega) HA.out]; rfl, rfl⟩
end Go.Proofs.Ytbjpilnlkmajpaa
