import Derived.Test.YtapjjhdopelpjaaOf
import Derived.Test.YtapjjhdopelpjaaPl1
namespace Go.Proofs.Ytapjjhdopelpjaa
set_option linter.unusedVariables false
set_option linter.unusedSimpArgs false
open Go.RowKit Go.Maps Go.Proofs.K

theorem cut_at (n : Int) (L : Nat) (h : L ≤ 1000) : ∃ k : Nat, k ≤ L ∧ wrap64 ((IntKind.u64.wrap n).tmod ((L : Int) + 1)) = (k : Int) := by
  have h0 := wrap_u64_nonneg n
  rw [Int.tmod_eq_emod_of_nonneg h0]
  have h1 := Int.emod_nonneg (IntKind.u64.wrap n) (show (L : Int) + 1 ≠ 0 by omega)
  have h2 := Int.emod_lt_of_pos (IntKind.u64.wrap n) (show (0 : Int) < (L : Int) + 1 by omega)
  generalize IntKind.u64.wrap n % ((L : Int) + 1) = m at h1 h2
  refine ⟨m.toNat, by omega, ?_⟩
  unfold wrap64
  omega

set_option maxHeartbeats 4000000 in
set_option maxRecDepth 100000 in
theorem lawStrict_calls (A : Option Addr) (c : Nat) (l : List EV) (n : Int) (w : World) (hr : RowOf encEV 3 w A l) (hl : l.length ≤ 9223372036854775807) (hlc : l.length ≤ c) (hcm : c ≤ maxLen) :
    Calls Try.prog 4 #[.slice A l.length c, .int .i64 n] w fun e w' => e = .returned (.bool true) ∧ Below w.heap.size w w' := by
  have HR := Sh.mk hr
  have HOF := Sh.mk (of_calls A c l w hr hl)
  have HST := Sh.mk (fun W (h : Below w.heap.size w W) (h50 : l.length ≤ 50) => hstrict_calls A c l W (hr.below h) (by omega) hlc hcm)
  have HL50 : Sh (okF l = true → l.length ≤ 50) := ⟨fun h => by unfold okF at h; simp at h; exact h.2⟩
  generalize okF l = ok at HOF HL50
  clear hr
  go_enter Try.func4, Try.ntmps4
  go_wp2_with fail
  refine HOF.out.mono ?_
  rintro e W1 ⟨v, rfl, -, hb1⟩
  have HB1 := Sh.mk hb1
  clear hb1 HOF
  cases ok
  · go_wp2_with fail
    refine (awake_calls _).mono ?_
    rintro e W2 ⟨rfl, hb2⟩
    have HB2 := Sh.mk (below_trans HB1.out hb2)
    clear hb2 HB1
    go_wp2_with fail
    go_ret
    exact ⟨rfl, HB2.out⟩
  have h50 := HL50.out rfl
  go_wp2_with fail
  refine (HST.out _ HB1.out h50).mono ?_
  generalize hst : hStrictF l = st
  rintro e W2 ⟨rfl, hb2⟩
  have HB2 := Sh.mk (below_trans HB1.out hb2)
  clear hb2 HB1
  cases st
  · clear hst
    go_wp2_with fail
    refine (awake_calls _).mono ?_
    rintro e W3 ⟨rfl, hb3⟩
    have HB3 := Sh.mk (below_trans HB2.out hb3)
    clear hb3 HB2
    go_wp2_with fail
    go_ret
    exact ⟨rfl, HB3.out⟩
  have HSS := Sh.mk hst
  have HRC := Sh.mk (fun W (h : Below w.heap.size w W) => strict_rec hst ▸ hrec_calls A c l W (HR.out.below h) (by omega) hlc hcm)
  clear hst
  obtain ⟨k, hk, hkw⟩ := cut_at n l.length (by omega)
  have hkc : (k : Int) ≤ (c : Int) := by omega
  have hk0 : (0 : Int) ≤ (k : Int) := by omega
  have HSK := Sh.mk (fun W (h : Below w.heap.size w W) => (show Calls Try.prog 14 #[.slice A k c] W fun e w' => e = .returned (.bool true) ∧ Below W.heap.size W w' by
    have := hstrict_calls A c (l.take k) W ((HR.out.take k).below h) (by rw [List.length_take]; omega) (by rw [List.length_take]; omega) hcm
    rw [List.length_take_of_le hk, strict_take HSS.out k] at this
    exact this))
  go_wp2_with fail
  refine (HRC.out _ HB2.out).mono ?_
  rintro e W3 ⟨rfl, hb3⟩
  have HB3 := Sh.mk (below_trans HB2.out hb3)
  clear hb3 HB2
  go_wp2_with fail
  refine (HSK.out _ HB3.out).mono ?_
  rintro e W4 ⟨rfl, hb4⟩
  have HB4 := Sh.mk (below_trans HB3.out hb4)
  clear hb4 HB3
  go_wp2_with fail
  refine (awake_calls _).mono ?_
  rintro e W5 ⟨rfl, hb5⟩
  have HB5 := Sh.mk (below_trans HB4.out hb5)
  clear hb5 HB4
  go_wp2_with fail
  go_ret
  exact ⟨rfl, HB5.out⟩
end Go.Proofs.Ytapjjhdopelpjaa
