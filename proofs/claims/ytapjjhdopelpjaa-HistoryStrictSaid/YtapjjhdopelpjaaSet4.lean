import Derived.Test.YtapjjhdopelpjaaSet3
namespace Go.Proofs.Ytapjjhdopelpjaa
set_option linter.unusedVariables false
set_option linter.unusedSimpArgs false
open Go.RowKit Go.Maps Go.Proofs.K

set_option maxHeartbeats 1000000 in
set_option maxRecDepth 100000 in
theorem SDrop_calls (p : Nat) (F : Nat → Prop) (l : List Int) (A : Option Addr) (c : Nat) (xs : List Int) (w : World) (hs : IsSet w p F l) (hr : RowOf encInt 1 w A xs) (hA : ∀ a, A = some a → ¬ F a.block) (hl : l.length ≤ 900000000) (hxl : xs.length ≤ 900000000) :
    Calls Try.prog 35 #[.pointer (some ⟨p, 0, none⟩), .slice A xs.length c] w fun e w' => ∃ n : Int, e = .returned (.int .i64 n) ∧ IsSet w' p (fun k => F k ∨ w.heap.size ≤ k) (dropL l xs) ∧ Chg F w w' := by
  have hx2 : xs.length ≤ 9223372036854775807 := by omega
  have HS := Sh.mk hs
  have HR := Sh.mk hr
  have HA := Sh.mk hA
  have HLN := Sh.mk (fun k => dropL_len (xs.take k) l)
  clear hs hr hA
  go_enter Try.func35, Try.ntmps35
  go_wp2_with fail
  go_loopw [5, 12] (fun n i wr => ∃ (k m : Nat), k ≤ xs.length ∧ m ≤ k ∧ i = .int .i64 k ∧ n = .int .i64 m ∧ Sh (IsSet wr p (fun j => F j ∨ w.heap.size ≤ j) (dropL l (xs.take k))) ∧ Sh (Chg F w wr)) (fun _ i _ => xs.length - (intOf i).toNat)
  case atStart => exact ⟨0, 0, Nat.zero_le _, Nat.le_refl _, rfl, rfl, ⟨HS.out.mono (fun _ h => .inl h)⟩, ⟨Chg.refl _ _⟩⟩
  case round =>
    obtain ⟨k, m, hk, hmk, rfl, rfl, HI, HC⟩ := hrel
    by_cases hlt : k < xs.length
    · obtain ⟨x, hx⟩ : ∃ x, x = xs[k] := ⟨_, rfl⟩
      obtain ⟨b, off, hAe, hc⟩ := HR.out k hlt
      have hbF : ¬ F b := HA.out _ hAe
      subst hAe
      rw [← hx] at hc
      have hc0 : wr.cell? ⟨b, off + k * 1, none⟩ = some (.int .i64 x) := HC.out.cell_of (hc 0 _ rfl) hbF
      rw [Nat.mul_one] at hc0
      have HFS : Sh (dropL l (xs.take (k + 1)) = dropS (dropL l (xs.take k)) x) := ⟨foldl_succ dropS l xs k hlt hx⟩
      clear hx hc hbF
      have HL := Sh.mk (HLN.out k)
      obtain ⟨v, hS⟩ := HI.out
      have HS1 := Sh.mk hS
      clear HI hS
      generalize dropL l (xs.take k) = lk at HFS HL HS1
      have hlen : lk.length ≤ 900000000 := by have := HL.out; omega
      have hcs := HC.out.size
      go_wp2_with fail
      have hSa : SetAt (wr.alloc (.cells #[.int .i64 x] 3)) p (fun j => F j ∨ w.heap.size ≤ j) v lk := HS1.out.below (bl_alloc (Below.refl _ _) _)
      refine (SHas_calls p _ lk (some ⟨wr.heap.size, 0, none⟩) 1 [x] _ ⟨v, hSa⟩ (by exact Blk.row (enc := encInt) (x := x) (sz := 1) (Blk.new wr 3 [.int .i64 x])) (by omega) (by simp)).mono ?_
      rintro e w3 ⟨rfl, hb3⟩
      have hb3' := below_trans (bl_alloc (Below.refl _ _) (.cells #[.int .i64 x] 3)) hb3
      have HS3 := Sh.mk (HS1.out.below hb3')
      have HC3 := Sh.mk (HC.out.trans (Chg.of_below (F := fun _ => False) hb3') (fun _ _ h => h.elim))
      have h3s := hb3'.size
      clear hSa hb3 hb3' HC hc0
      rw [show [x].all lk.contains = lk.contains x by simp]
      generalize hq : lk.contains x = r
      have HQ := Sh.mk hq
      clear hq
      have hp0 : w3.cell? ⟨p, 0, none⟩ = some v := HS3.out.blk.cell 0
      cases r
      · have e : dropS lk x = lk := by unfold dropS; rw [HQ.out]; simp
        have HI5 : Sh (IsSet w3 p (fun j => F j ∨ w.heap.size ≤ j) (dropS lk x)) := ⟨by rw [e]; exact ⟨v, HS3.out⟩⟩
        clear e
        go_wp2_with fail
        go_roundw
        case rel => exact ⟨k + 1, m, by omega, by omega, by go_num, rfl, ⟨by rw [HFS.out]; exact HI5.out⟩, HC3⟩
        case measure => simp [intOf]; omega
      · go_wp2_with fail
        refine (bs_own x _ HS3.out.own HS3.out.up (by omega)).mono ?_
        rintro e w' ⟨rfl, q, rfl⟩
        have hci : lk.countP (· < x) < lk.length := by
          rcases Nat.lt_or_ge (lk.countP (· < x)) lk.length with h | h
          · exact h
          · have hm : x ∈ lk := by simpa using HQ.out
            have h1 : lk.countP (· < x) = lk.length := by have := List.countP_le_length (p := (· < x)) (l := lk); omega
            have h2 := (List.countP_eq_length.1 h1) x hm
            simp at h2
        obtain ⟨ci, hcie⟩ : ∃ ci, ci = lk.countP (· < x) := ⟨_, rfl⟩
        rw [← hcie] at hci ⊢
        have HCI := Sh.mk hcie
        clear hcie
        go_wp2_with fail
        have hS4 := HS3.out.below (bl_drewN (Below.refl _ _) q)
        refine (del_own (base := 0) ci _ hS4.own hci).mono ?_
        rintro e w4 ⟨v4, rfl, ho4, hc4, hf4⟩
        obtain ⟨A4, c4, hv4, -, -, -⟩ := ho4.reads (fun _ => rfl)
        subst hv4
        generalize (lk.eraseIdx ci).length = n4 at ho4 hf4 ⊢
        have hnv : ∀ k, v.ownBlock = some k → ¬ k = p := own_ne HS3.out.own HS3.out.blk (by decide)
        have hb4 := hS4.blk.chg hc4 (fun e => hnv p e.symm rfl)
        have p4 : w4.cell? ⟨p, 0, none⟩ = some v := hb4.cell 0
        have f4 := hb4.frozen 0
        have hC5 : Chg F w (w4.setCell ⟨p, 0, none⟩ (.slice A4 n4 c4)) := by
          have h1 := (HC3.out.drewN q).trans hc4 (fun k hk e => by
            rcases HS1.out.fv k e.symm with h | h
            · exact h
            · omega)
          have hc6 : Chg (fun k => k = p) w4 (w4.setCell ⟨p, 0, none⟩ (.slice A4 n4 c4)) := (Chg.refl (fun k => k = p) w4).setCell (p := ⟨p, 0, none⟩) rfl _
          exact h1.trans hc6 (fun k hk e => by
            subst e
            rcases HS1.out.fp with h | h
            · exact h
            · omega)
        have hI5 : IsSet (w4.setCell ⟨p, 0, none⟩ (.slice A4 n4 c4)) p (fun j => F j ∨ w.heap.size ≤ j) (dropS lk x) := by
          have e : dropS lk x = lk.eraseIdx ci := by
            unfold dropS
            rw [HQ.out, HCI.out]
            simp
          refine ⟨_, hb4.set 0 _, ?_, dropS_up HS1.out.up x, HS1.out.fp, fun k hk => HS1.out.fv k (hf4 k hk)⟩
          rw [e]
          exact ho4.chg ((Chg.refl (fun k => k = p) w4).setCell (p := ⟨p, 0, none⟩) rfl _) (own_ne ho4 hb4 (by decide))
        have HI5 := Sh.mk hI5
        have HC5 := Sh.mk hC5
        clear hI5 hC5 hS4 ho4 hc4 hf4 hb4
        go_wp2_with fail
        go_roundw
        case rel => exact ⟨k + 1, m + 1, by omega, by omega, by go_num, by go_num, ⟨by rw [HFS.out]; exact HI5.out⟩, HC5⟩
        case measure => simp [intOf]; omega
    · obtain rfl : k = xs.length := by omega
      rw [List.take_length] at HI
      go_wp2_with fail
      go_ret
      exact ⟨_, rfl, HI.out, HC.out⟩
end Go.Proofs.Ytapjjhdopelpjaa
