import Derived.Test.YtapjjhdopelpjaaSet2
namespace Go.Proofs.Ytapjjhdopelpjaa
set_option linter.unusedVariables false
set_option linter.unusedSimpArgs false
open Go.RowKit Go.Maps Go.Proofs.K

/-- A set in memory: its blocks are F's. -/
structure SetAt (w : World) (p : Nat) (F : Nat → Prop) (v : Value) (l : List Int) : Prop where
  blk : Blk w p 72 [v]
  own : Own encInt 3 1 w 0 v l
  up : l.Pairwise (· < ·)
  fp : F p
  fv : ∀ k, v.ownBlock = some k → F k
def IsSet (w : World) (p : Nat) (F : Nat → Prop) (l : List Int) : Prop := ∃ v, SetAt w p F v l
theorem SetAt.chg {w w1 : World} {p : Nat} {F G : Nat → Prop} {v : Value} {l : List Int} (h : SetAt w p F v l) (c : Chg G w w1) (hG : ∀ k, F k → ¬ G k) : SetAt w1 p F v l :=
  ⟨h.blk.chg c (hG _ h.fp), h.own.chg c (fun k hk => hG _ (h.fv k hk)), h.up, h.fp, h.fv⟩
theorem SetAt.below {w w1 : World} {p : Nat} {F : Nat → Prop} {v : Value} {l : List Int} (h : SetAt w p F v l) (hb : Below w.heap.size w w1) : SetAt w1 p F v l := h.chg (Chg.of_below (F := fun _ => False) hb) (fun _ _ h => h)
theorem IsSet.chg {w w1 : World} {p : Nat} {F G : Nat → Prop} {l : List Int} (h : IsSet w p F l) (c : Chg G w w1) (hG : ∀ k, F k → ¬ G k) : IsSet w1 p F l := by
  obtain ⟨v, h⟩ := h
  exact ⟨v, h.chg c hG⟩
theorem IsSet.below {w w1 : World} {p : Nat} {F : Nat → Prop} {l : List Int} (h : IsSet w p F l) (hb : Below w.heap.size w w1) : IsSet w1 p F l := h.chg (Chg.of_below (F := fun _ => False) hb) (fun _ _ h => h)
theorem IsSet.mono {w : World} {p : Nat} {F G : Nat → Prop} {l : List Int} (h : IsSet w p F l) (hF : ∀ k, F k → G k) : IsSet w p G l := by
  obtain ⟨v, h⟩ := h
  exact ⟨v, h.blk, h.own, h.up, hF _ h.fp, fun k hk => hF _ (h.fv k hk)⟩
theorem IsSet.tight {w : World} {p : Nat} {F : Nat → Prop} {l : List Int} (h : IsSet w p F l) : IsSet w p (fun k => F k ∧ k < w.heap.size) l := by
  obtain ⟨v, h⟩ := h
  exact ⟨v, h.blk, h.own, h.up, ⟨h.fp, h.blk.lt⟩, fun k hk => ⟨h.fv k hk, (h.own.lt k hk).2⟩⟩
theorem IsSet.up {w : World} {p : Nat} {F : Nat → Prop} {l : List Int} (h : IsSet w p F l) : l.Pairwise (· < ·) := by
  obtain ⟨v, h⟩ := h
  exact h.up
theorem IsSet.new {w : World} {p : Nat} (h : Blk w p 72 [.slice none 0 0]) : IsSet w p (fun k => k = p) [] :=
  ⟨_, h, Own.nil _ _ _ _ _, List.Pairwise.nil, rfl, fun k hk => by simp [Value.ownBlock] at hk⟩
def addL (l xs : List Int) : List Int := xs.foldl addS l
def dropL (l xs : List Int) : List Int := xs.foldl dropS l
theorem addL_len (xs : List Int) : ∀ l, l.length ≤ (addL l xs).length ∧ (addL l xs).length ≤ l.length + xs.length := by
  unfold addL
  induction xs with
  | nil => intro l; simp
  | cons x r ih =>
    intro l
    have h1 := ih (addS l x)
    have h2 := addS_len l x
    simp only [List.foldl_cons, List.length_cons]
    omega
theorem dropL_len (xs : List Int) : ∀ l, (dropL l xs).length ≤ l.length := by
  unfold dropL
  induction xs with
  | nil => intro l; simp
  | cons x r ih =>
    intro l
    have h1 := ih (dropS l x)
    have h2 := (dropS_sub l x).length_le
    simp only [List.foldl_cons]
    omega

set_option maxHeartbeats 1000000 in
set_option maxRecDepth 100000 in
theorem SHas_calls (p : Nat) (F : Nat → Prop) (l : List Int) (A : Option Addr) (c : Nat) (xs : List Int) (w : World) (hs : IsSet w p F l) (hr : RowOf encInt 1 w A xs) (hl : l.length ≤ 1000000000) (hx : xs.length ≤ 1000000000) :
    Calls Try.prog 24 #[.pointer (some ⟨p, 0, none⟩), .slice A xs.length c] w fun e w' => e = .returned (.bool (xs.all l.contains)) ∧ Below w.heap.size w w' := by
  obtain ⟨v, hS⟩ := hs
  have HS := Sh.mk hS
  have HR := Sh.mk hr
  generalize hG : xs.all l.contains = R
  have HG := Sh.mk hG
  have hx2 : xs.length ≤ 9223372036854775807 := by omega
  clear hS hr hG
  go_enter Try.func24, Try.ntmps24
  go_wp2_with fail
  go_loopw [11] (fun i wr => ∃ k : Nat, k ≤ xs.length ∧ i = .int .i64 k ∧ Below w.heap.size w wr ∧ Sh ((xs.take k).all l.contains = true)) (fun i _ => xs.length - (intOf i).toNat)
  case atStart => exact ⟨0, Nat.zero_le _, rfl, Below.refl _ _, ⟨rfl⟩⟩
  case round =>
    obtain ⟨k, hk, rfl, hbw, HA⟩ := hrel
    by_cases hlt : k < xs.length
    · obtain ⟨x, hx⟩ : ∃ x, x = xs[k] := ⟨_, rfl⟩
      obtain ⟨b, off, rfl, hc⟩ := HR.out k hlt
      rw [← hx] at hc
      have hc0 : wr.cell? ⟨b, off + k * 1, none⟩ = some (.int .i64 x) := below_cell hbw (hc 0 _ rfl)
      rw [Nat.mul_one] at hc0
      have HX := Sh.mk hx
      clear hx hc
      have hp0 : wr.cell? ⟨p, 0, none⟩ = some v := below_cell hbw (HS.out.blk.cell 0)
      go_wp2_with fail
      refine (bs_own x _ (HS.out.own.below hbw) HS.out.up hl).mono ?_
      rintro e w' ⟨rfl, q, rfl⟩
      generalize hq : l.contains x = r
      have HQ := Sh.mk hq
      clear hq
      cases r
      · go_wp2_with fail
        go_ret
        refine ⟨?_, bl_drewN hbw _⟩
        have : xs.all l.contains = false := by
          rw [List.all_eq_false]
          exact ⟨x, HX.out ▸ List.getElem_mem hlt, by rw [HQ.out]; decide⟩
        rw [← HG.out, this]
        rfl
      · go_wp2_with fail
        go_roundw
        case rel => exact ⟨k + 1, by omega, by go_num, bl_drewN hbw _, ⟨by rw [List.take_succ_eq_append_getElem hlt, List.all_append, HA.out, ← HX.out]; simpa using HQ.out⟩⟩
        case measure => simp [intOf]; omega
    · obtain rfl : k = xs.length := by omega
      go_wp2_with fail
      go_ret
      refine ⟨?_, hbw⟩
      have h := HA.out
      rw [List.take_length] at h
      rw [← HG.out, h]
      rfl

set_option maxHeartbeats 1000000 in
set_option maxRecDepth 100000 in
theorem SAdd_calls (p : Nat) (F : Nat → Prop) (l : List Int) (A : Option Addr) (c : Nat) (xs : List Int) (w : World) (hs : IsSet w p F l) (hr : RowOf encInt 1 w A xs) (hA : ∀ a, A = some a → ¬ F a.block) (hl : l.length + xs.length ≤ 900000000) :
    Calls Try.prog 37 #[.pointer (some ⟨p, 0, none⟩), .slice A xs.length c] w fun e w' => e = .returned (.int .i64 (((addL l xs).length : Int) - (l.length : Int))) ∧ IsSet w' p (fun k => F k ∨ w.heap.size ≤ k) (addL l xs) ∧ Chg F w w' := by
  have hx2 : xs.length ≤ 9223372036854775807 := by omega
  have HS := Sh.mk hs
  have HR := Sh.mk hr
  have HA := Sh.mk hA
  have HLN := Sh.mk (fun k => addL_len (xs.take k) l)
  clear hs hr hA
  go_enter Try.func37, Try.ntmps37
  go_wp2_with fail
  go_loopw [5, 14] (fun n i wr => ∃ (k m : Nat), k ≤ xs.length ∧ m ≤ k ∧ i = .int .i64 k ∧ n = .int .i64 m ∧ Sh (l.length + m = (addL l (xs.take k)).length) ∧ Sh (IsSet wr p (fun j => F j ∨ w.heap.size ≤ j) (addL l (xs.take k))) ∧ Sh (Chg F w wr)) (fun _ i _ => xs.length - (intOf i).toNat)
  case atStart => exact ⟨0, 0, Nat.zero_le _, Nat.le_refl _, rfl, rfl, ⟨rfl⟩, ⟨HS.out.mono (fun _ h => .inl h)⟩, ⟨Chg.refl _ _⟩⟩
  case round =>
    obtain ⟨k, m, hk, hmk, rfl, rfl, HM, HI, HC⟩ := hrel
    by_cases hlt : k < xs.length
    · obtain ⟨x, hx⟩ : ∃ x, x = xs[k] := ⟨_, rfl⟩
      obtain ⟨b, off, hAe, hc⟩ := HR.out k hlt
      have hbF : ¬ F b := HA.out _ hAe
      subst hAe
      rw [← hx] at hc
      have hc0 : wr.cell? ⟨b, off + k * 1, none⟩ = some (.int .i64 x) := HC.out.cell_of (hc 0 _ rfl) hbF
      rw [Nat.mul_one] at hc0
      have HFS : Sh (addL l (xs.take (k + 1)) = addS (addL l (xs.take k)) x) := ⟨foldl_succ addS l xs k hlt hx⟩
      clear hx hc hbF
      have HL := Sh.mk (HLN.out k)
      have hkt : Sh ((xs.take k).length ≤ k) := ⟨List.length_take_le _ _⟩
      obtain ⟨v, hS⟩ := HI.out
      have HS1 := Sh.mk hS
      clear HI hS
      generalize addL l (xs.take k) = lk at HM HFS HL HS1
      have hp0 : wr.cell? ⟨p, 0, none⟩ = some v := HS1.out.blk.cell 0
      have hlen : lk.length ≤ 900000000 := by have := HL.out.2; have := hkt.out; omega
      go_wp2_with fail
      refine (bs_own x _ HS1.out.own HS1.out.up (by omega)).mono ?_
      rintro e w' ⟨rfl, q, rfl⟩
      generalize hq : lk.contains x = r
      have HQ := Sh.mk hq
      have hci : lk.countP (· < x) ≤ lk.length := List.countP_le_length
      obtain ⟨ci, hcie⟩ : ∃ ci, ci = lk.countP (· < x) := ⟨_, rfl⟩
      rw [← hcie] at hci ⊢
      have HCI := Sh.mk hcie
      clear hq hcie
      cases r
      · refine Sh.out ?_
        refine ⟨?_⟩
        go_wp2_with fail
        have hS2 : SetAt (wr.drewN q) p (fun j => F j ∨ w.heap.size ≤ j) v lk := HS1.out.below (bl_drewN (Below.refl _ _) _)
        have hS3 := hS2.below (bl_alloc (Below.refl _ _) (.cells #[.int .i64 x] 3))
        have hcs := HC.out.size
        refine (ins_own (base := 0) ci wr.heap.size x _ hS3.own (by exact (Blk.new (wr.drewN q) 3 [.int .i64 x])) (fun k hk e => by have := (HS1.out.own.lt k hk).2; omega) hci (by omega) (Nat.zero_le _)).mono ?_
        rintro e w4 ⟨v4, rfl, ho4, hc4, hf4⟩
        obtain ⟨A4, c4, hv4, -, -, -⟩ := ho4.reads (fun _ => rfl)
        subst hv4
        generalize (lk.take ci ++ x :: lk.drop ci).length = n4 at ho4 hf4 ⊢
        have hnv : ∀ k, v.ownBlock = some k → ¬ k = p := own_ne HS1.out.own HS1.out.blk (by decide)
        have hb4 := hS3.blk.chg hc4 (fun e => hnv p e.symm rfl)
        have p4 : w4.cell? ⟨p, 0, none⟩ = some v := hb4.cell 0
        have f4 := hb4.frozen 0
        have hs3 : (wr.drewN q).heap.size = wr.heap.size := rfl
        have hC5 : Chg F w (w4.setCell ⟨p, 0, none⟩ (.slice A4 n4 c4)) := by
          have h1 := ((HC.out.drewN q).alloc (.cells #[.int .i64 x] 3)).trans hc4 (fun k hk e => by
            rcases HS1.out.fv k e.symm with h | h
            · exact h
            · omega)
          have hc6 : Chg (fun k => k = p) w4 (w4.setCell ⟨p, 0, none⟩ (.slice A4 n4 c4)) := (Chg.refl (fun k => k = p) w4).setCell (p := ⟨p, 0, none⟩) rfl _
          exact h1.trans hc6 (fun k hk e => by
            subst e
            rcases HS1.out.fp with h | h
            · exact h
            · omega)
        have hI5 : IsSet (w4.setCell ⟨p, 0, none⟩ (.slice A4 n4 c4)) p (fun j => F j ∨ w.heap.size ≤ j) (addS lk x) := by
          have e : addS lk x = lk.take ci ++ x :: lk.drop ci := by
            unfold addS insF
            rw [HQ.out, HCI.out]
            simp
          refine ⟨_, hb4.set 0 _, ?_, addS_up HS1.out.up x, HS1.out.fp, fun k hk => ?_⟩
          · rw [e]
            exact ho4.chg ((Chg.refl (fun k => k = p) w4).setCell (p := ⟨p, 0, none⟩) rfl _) (own_ne ho4 hb4 (by decide))
          · rcases hf4 k hk with h | h
            · exact HS1.out.fv k h
            · exact .inr (by simp at h; omega)
        have hlen5 : l.length + (m + 1) = (addS lk x).length := by
          have e : addS lk x = lk.take ci ++ x :: lk.drop ci := by
            unfold addS insF
            rw [HQ.out, HCI.out]
            simp
          rw [e]
          have := HM.out
          simp
          omega
        have HI5 := Sh.mk hI5
        have HC5 := Sh.mk hC5
        have HL5 := Sh.mk hlen5
        clear hI5 hC5 hlen5 hS2 hS3 ho4 hc4 hf4 hb4
        go_wp2_with fail
        go_roundw
        case rel => exact ⟨k + 1, m + 1, by omega, by omega, by go_num, by go_num, ⟨by rw [HFS.out]; exact HL5.out⟩, ⟨by rw [HFS.out]; exact HI5.out⟩, HC5⟩
        case measure => simp [intOf]; omega
      · have HI5 : Sh (IsSet (wr.drewN q) p (fun j => F j ∨ w.heap.size ≤ j) (addS lk x)) := ⟨by
          have e : addS lk x = lk := by unfold addS; rw [HQ.out]; simp
          rw [e]
          exact ⟨v, HS1.out.below (bl_drewN (Below.refl _ _) _)⟩⟩
        have HL5 : Sh (l.length + m = (addS lk x).length) := ⟨by
          have e : addS lk x = lk := by unfold addS; rw [HQ.out]; simp
          rw [e]
          exact HM.out⟩
        go_wp2_with fail
        go_roundw
        case rel => exact ⟨k + 1, m, by omega, by omega, by go_num, rfl, ⟨by rw [HFS.out]; exact HL5.out⟩, ⟨by rw [HFS.out]; exact HI5.out⟩, ⟨HC.out.drewN q⟩⟩
        case measure => simp [intOf]; omega
    · obtain rfl : k = xs.length := by omega
      rw [List.take_length] at HI HM
      go_wp2_with fail
      go_ret
      refine ⟨?_, HI.out, HC.out⟩
      have := HM.out
      have e : ((addL l xs).length : Int) - (l.length : Int) = (m : Int) := by omega
      rw [e]
      rfl

set_option maxHeartbeats 400000 in
theorem SLen_calls (p : Nat) (F : Nat → Prop) (l : List Int) (w : World) (hs : IsSet w p F l) :
    Calls Try.prog 29 #[.pointer (some ⟨p, 0, none⟩)] w fun e w' => e = .returned (.int .i64 (l.length : Int)) ∧ w = w' := by
  obtain ⟨v, hS⟩ := hs
  obtain ⟨A, c, hv, hlc, hcm, -⟩ := hS.own.reads (fun _ => rfl)
  subst hv
  have hp0 : w.cell? ⟨p, 0, none⟩ = some (.slice A l.length c) := hS.blk.cell 0
  clear hS
  go_enter Try.func29, Try.ntmps29
  go_wp2_with fail
  go_ret
  exact ⟨rfl, rfl⟩
set_option maxHeartbeats 400000 in
theorem SList_calls (p : Nat) (F : Nat → Prop) (l : List Int) (w : World) (hs : IsSet w p F l) (hl : l.length ≤ 1000000000) :
    Calls Try.prog 31 #[.pointer (some ⟨p, 0, none⟩)] w fun e w' => ∃ v, e = .returned v ∧ Own encInt 3 1 w' w.heap.size v l ∧ Below w.heap.size w w' := by
  obtain ⟨v, hS⟩ := hs
  have hp0 : w.cell? ⟨p, 0, none⟩ = some v := hS.blk.cell 0
  have HC := Sh.mk (clone_own w hS.own hl)
  clear hS
  go_enter Try.func31, Try.ntmps31
  go_wp2_with fail
  refine HC.out.mono ?_
  rintro e w' ⟨v', rfl, ho, hb⟩
  have HO := Sh.mk ho
  have HB := Sh.mk hb
  clear ho hb
  go_wp2_with fail
  go_ret
  exact ⟨_, rfl, HO.out, HB.out⟩
end Go.Proofs.Ytapjjhdopelpjaa
