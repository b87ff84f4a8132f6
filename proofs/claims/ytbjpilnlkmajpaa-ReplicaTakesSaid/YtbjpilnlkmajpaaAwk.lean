import Derived.Test.YtbjpilnlkmajpaaRef2
namespace Go.Proofs.Ytbjpilnlkmajpaa
set_option linter.unusedVariables false
set_option linter.unusedSimpArgs false
open Go.RowKit Go.Maps Go.Proofs.K

def ax : BR := ⟨0, ⟨1, 1, 1, 0, 0, ⟨#[]⟩, ⟨false, ⟨#[]⟩⟩, ⟨false, ⟨#[]⟩⟩, 0⟩⟩
def ay : BR := ⟨0, ⟨2, 2, 1, 1, 0, ⟨#[97]⟩, ⟨false, ⟨#[]⟩⟩, ⟨true, ⟨#[120]⟩⟩, 0⟩⟩
def az : BR := ⟨0, ⟨5, 3, 1, 2, 0, ⟨#[]⟩, ⟨false, ⟨#[]⟩⟩, ⟨false, ⟨#[]⟩⟩, 0⟩⟩
def as2 : RS := (takesF (newS []) [ax, ay]).2.2
def as3 : RS := (takesF as2 [az]).2.2
theorem at2 : (takesF (newS []) [ax, ay]).1 = 2 ∧ (takesF (newS []) [ax, ay]).2.1 = 0 := by decide +kernel
theorem at3 : (takesF as2 [az]).1 = 1 ∧ (takesF as2 [az]).2.1 = 0 := by decide +kernel
theorem ag2 : as2.now ⟨#[97]⟩ = none := by decide +kernel
theorem ag3 : as3.now ⟨#[97]⟩ = some ⟨#[120]⟩ := by decide +kernel
theorem as2_eq : as2 = takeS (takeS (newS []) ax) ay := by
  unfold as2
  simp only [takesF]
  rw [if_pos (by decide +kernel), if_pos (by decide +kernel)]
theorem as3_eq : as3 = takeS (takeS (takeS (newS []) ax) ay) az := by
  unfold as3
  rw [as2_eq]
  simp only [takesF]
  rw [if_pos (by decide +kernel)]
theorem ao3 (k : Int) : as3.opn k = none := by
  rw [as3_eq]
  simp only [takeS, ax, ay, az, updI, newS]
  by_cases h : k = 1 <;> simp [updI, h]

set_option maxHeartbeats 1000000 in
set_option maxRecDepth 100000 in
theorem awake_calls (w : World) : Calls Try.prog 6 #[] w fun e w' => e = .returned (.bool true) ∧ Below w.heap.size w w' := by
  go_enter Try.func6, Try.ntmps6
  go_wp2_with fail
  refine calls_gen (fun W => Blk W w.heap.size 29 [.bool true, .string ⟨#[120]⟩] ∧ RowOf encBR 12 W (some ⟨w.heap.size + 1, 0, none⟩) [ax, ay, az] ∧ Below w.heap.size w W ∧ W.heap.size = w.heap.size + 2) ⟨?_, ?_, ?_, ?_⟩ ?_
  · exact (Blk.new' rfl).alloc _
  · exact Blk.rows (t := 33) (fun _ => rfl) (Blk.new' (by simp))
  · exact bl_alloc (bl_alloc (Below.refl _ _) _) _
  · simp
  rintro W ⟨hX, hR, hB, hsz⟩
  have HX := Sh.mk hX
  have HR := Sh.mk hR
  have HB := Sh.mk hB
  clear hX hR hB
  refine (New_calls none 0 [] W (RowOf.nil _ _) (by simp) (by simp)).mono ?_
  rintro e w1 ⟨p, rfl, hp, hs, hb1⟩
  have h1s := hb1.size
  replace hs := Sh.mk hs
  replace HX := Sh.mk (HX.out.below hb1)
  replace HR := Sh.mk (HR.out.below hb1)
  replace HB := Sh.mk (below_trans HB.out (hb1.mono (by omega)))
  clear hb1
  go_wp2_with fail
  refine (Of_calls (some ⟨w.heap.size + 1, 0, none⟩) 3 [ax, ay] w1 (HR.out.take 2) (by simp)).mono ?_
  rintro e w2 ⟨v, rfl, ho, hb2⟩
  obtain ⟨A, c, hv, hc1, hc2, hrow⟩ := ho.reads (fun _ => rfl)
  subst hv
  have hA : ∀ a, A = some a → ¬ (W.heap.size ≤ a.block ∧ a.block < w1.heap.size) := fun a ha => by
    have := (ho.lt a.block (by rw [ha]; rfl)).1
    omega
  have h2s := hb2.size
  replace hs := Sh.mk (hs.out.chg (Chg.of_below (F := fun _ => False) hb2) (fun _ _ h => h))
  replace HX := Sh.mk (HX.out.below hb2)
  replace HR := Sh.mk (HR.out.below hb2)
  replace HB := Sh.mk (below_trans HB.out (hb2.mono (by omega)))
  have HROW := Sh.mk hrow
  have HA := Sh.mk hA
  clear hb2 ho hrow hA hc1 hc2
  go_wp2_with fail
  refine (Take_calls p 0 0 _ (newS []) A c [ax, ay] w2 hs.out HROW.out HA.out (by decide +kernel) (by decide +kernel) (by decide)).mono ?_
  rintro e w3 ⟨rfl, hs3, hc3⟩
  rw [at2.1, at2.2]
  have h3s := hc3.size
  replace hs3 := Sh.mk (hs3.tight.mono (F' := fun k => W.heap.size ≤ k ∧ k < w3.heap.size) (Nat.le_refl _) (Nat.le_refl _) (by rintro k ⟨h1 | h1, h2⟩ <;> exact ⟨by omega, h2⟩))
  replace HX := Sh.mk (HX.out.chg hc3 (by omega))
  replace HR := Sh.mk (HR.out.chg hc3 (by omega))
  replace HB := Sh.mk (((Chg.of_below (F := fun k => W.heap.size ≤ k) HB.out).trans hc3 (fun k _ h => h.1)).below (fun k hk h => by omega))
  clear hc3 hs HROW HA
  go_wp2_with fail
  have he2 : (takesF (newS []) [ax, ay]).2.2 = as2 := rfl
  rw [he2] at hs3
  refine (Get_calls p _ _ _ as2 ⟨#[97]⟩ w3 hs3.out (by decide)).mono ?_
  rw [ag2]
  rintro e w4 ⟨rfl, hb4⟩
  have h4s := hb4.size
  replace hs3 := Sh.mk (hs3.out.chg (Chg.of_below (F := fun _ => False) hb4) (fun _ _ h => h))
  replace HX := Sh.mk (HX.out.below hb4)
  replace HR := Sh.mk (HR.out.below hb4)
  replace HB := Sh.mk (below_trans HB.out (hb4.mono (by omega)))
  clear hb4
  go_wp2_with fail
  refine calls_gen (fun W5 => Blk W5 w4.heap.size 29 [.bool false, .string ⟨#[]⟩] ∧ Below w4.heap.size w4 W5) ⟨Blk.new' rfl, bl_alloc (Below.refl _ _) _⟩ ?_
  rintro w5 ⟨hY, hb5⟩
  have h5s := hb5.size
  replace hs3 := Sh.mk (hs3.out.chg (Chg.of_below (F := fun _ => False) hb5) (fun _ _ h => h))
  replace HX := Sh.mk (HX.out.below hb5)
  replace HR := Sh.mk (HR.out.below hb5)
  replace HB := Sh.mk (below_trans HB.out (hb5.mono (by omega)))
  clear hb5
  have hR1 := (HR.out.drop 2)
  rw [show (0 + 2 * 12) = 24 from rfl] at hR1
  refine (Of_calls (some ⟨w.heap.size + 1, 24, none⟩) 1 [az] w5 hR1 (by simp)).mono ?_
  rintro e w6 ⟨v, rfl, ho, hb6⟩
  obtain ⟨A, c, hv, hc1, hc2, hrow⟩ := ho.reads (fun _ => rfl)
  subst hv
  have hA : ∀ a, A = some a → ¬ (W.heap.size ≤ a.block ∧ a.block < w3.heap.size) := fun a ha => by
    have := (ho.lt a.block (by rw [ha]; rfl)).1
    omega
  have h6s := hb6.size
  have hYl := hY.lt
  replace hs3 := Sh.mk (hs3.out.chg (Chg.of_below (F := fun _ => False) hb6) (fun _ _ h => h))
  replace HX := Sh.mk (HX.out.below hb6)
  replace HB := Sh.mk (below_trans HB.out (hb6.mono (by omega)))
  have HY := Sh.mk (hY.below hb6)
  have HROW := Sh.mk hrow
  have HA := Sh.mk hA
  clear hb6 ho hrow hA hc1 hc2 hR1 hY HR
  go_wp2_with fail
  refine (Take_calls p _ _ _ as2 A c [az] w6 hs3.out HROW.out HA.out (by decide +kernel) (by decide +kernel) (by decide)).mono ?_
  rintro e w7 ⟨rfl, hs7, hc7⟩
  rw [at3.1, at3.2]
  have h7s := hc7.size
  have he3 : (takesF as2 [az]).2.2 = as3 := rfl
  rw [he3] at hs7
  have HS := Sh.mk hs7
  have X := hc7.mono (G := fun k => W.heap.size ≤ k ∧ k < w3.heap.size) (fun _ _ h => h)
  replace HX := Sh.mk (HX.out.chg hc7 (by omega))
  replace HY := Sh.mk (HY.out.chg hc7 (by omega))
  replace HB := Sh.mk (((Chg.of_below (F := fun k => W.heap.size ≤ k) HB.out).trans hc7 (fun k _ h => h.1)).below (fun k hk h => by omega))
  clear hc7 hs7 hs3 HROW HA X
  go_wp2_with fail
  have ev0 : ∀ W, (binOp .eql 29 (.agg #[.bool false, .string ⟨#[]⟩]) (.agg #[.bool false, .string ⟨#[]⟩])).run Try.prog W = .ok (.bool true) W := fun W => by
    have h := eqV ⟨false, ⟨#[]⟩⟩ ⟨false, ⟨#[]⟩⟩ W
    rw [show decide ((⟨false, ⟨#[]⟩⟩ : VL) = ⟨false, ⟨#[]⟩⟩) = true from by simp] at h
    exact h
  have ev1 : ∀ W, (binOp .eql 29 (.agg #[.bool true, .string ⟨#[120]⟩]) (.agg #[.bool true, .string ⟨#[120]⟩])).run Try.prog W = .ok (.bool true) W := fun W => by
    have h := eqV ⟨true, ⟨#[120]⟩⟩ ⟨true, ⟨#[120]⟩⟩ W
    rw [show decide ((⟨true, ⟨#[120]⟩⟩ : VL) = ⟨true, ⟨#[120]⟩⟩) = true from by simp] at h
    exact h
  have E0 := Sh.mk ev0
  have E1 := Sh.mk ev1
  have HSZ := Sh.mk (And.intro hsz (And.intro h3s (And.intro h4s (And.intro h5s h6s))))
  clear ev0 ev1
  generalize hF : (fun k => W.heap.size ≤ k ∧ k < w3.heap.size ∨ w6.heap.size ≤ k) = F at HS
  generalize (0 + [ax, ay].length * (0 + [ax, ay].length) + [az].length * (0 + [ax, ay].length + [az].length)) = N at HS
  generalize hMM : (0 + [ax, ay].length + [az].length) = M at HS
  have hM : M ≤ 1000000000 := by rw [← hMM]; decide
  clear hF hMM
  refine wp_region_noPanic ?_
  refine wpN_begin 99 (fun W => Blk W w.heap.size 29 [.bool true, .string ⟨#[120]⟩] ∧ Blk W w4.heap.size 29 [.bool false, .string ⟨#[]⟩] ∧ Below w.heap.size w W ∧ IsRep W p N M F as3) (by kernel_rfl) ?_
  have hS : (fun W => Blk W w.heap.size 29 [.bool true, .string ⟨#[120]⟩] ∧ Blk W w4.heap.size 29 [.bool false, .string ⟨#[]⟩] ∧ Below w.heap.size w W ∧ IsRep W p N M F as3) w7.drew := ⟨HX.out.drew, HY.out.drew, bl_drew HB.out, HS.out.chg (Chg.refl (fun _ => False) w7).drew (fun _ _ h => h)⟩
  refine wpN_take (i := 0) (v := ?_) rfl rfl (by kernel_rfl) (by kernel_rfl) (by kernel_rfl) (by kernel_rfl) (fun _ _ _ h => h) (Or.inl ⟨by kernel_rfl, ?hy⟩) hS ?_
  case hy =>
    intro W hW
    skip
    go_simp
    try with_reducible rfl
  (try simp only [Act.put]); (try simp only [List.setIfInBounds_toArray]); (try simp only [List.set_cons_succ]); (try simp only [List.set_cons_zero])
  refine wpN_take (i := 1) (v := ?_) rfl rfl (by kernel_rfl) (by kernel_rfl) (by kernel_rfl) (by kernel_rfl) (fun _ _ _ h => h) (Or.inl ⟨by kernel_rfl, ?hy⟩) hS ?_
  case hy =>
    intro W hW
    skip
    go_simp
    try with_reducible rfl
  (try simp only [Act.put]); (try simp only [List.setIfInBounds_toArray]); (try simp only [List.set_cons_succ]); (try simp only [List.set_cons_zero])
  refine wpN_take (i := 2) (v := ?_) rfl rfl (by kernel_rfl) (by kernel_rfl) (by kernel_rfl) (by kernel_rfl) (fun _ _ _ h => h) (Or.inl ⟨by kernel_rfl, ?hy⟩) hS ?_
  case hy =>
    intro W hW
    skip
    go_simp
    try with_reducible rfl
  (try simp only [Act.put]); (try simp only [List.setIfInBounds_toArray]); (try simp only [List.set_cons_succ]); (try simp only [List.set_cons_zero])
  refine wpN_take (i := 3) (v := ?_) rfl rfl (by kernel_rfl) (by kernel_rfl) (by kernel_rfl) (by kernel_rfl) (fun _ _ _ h => h) (Or.inl ⟨by kernel_rfl, ?hy⟩) hS ?_
  case hy =>
    intro W hW
    skip
    go_simp
    try with_reducible rfl
  (try simp only [Act.put]); (try simp only [List.setIfInBounds_toArray]); (try simp only [List.set_cons_succ]); (try simp only [List.set_cons_zero])
  refine wpN_take (i := 4) (v := ?_) rfl rfl (by kernel_rfl) (by kernel_rfl) (by kernel_rfl) (by kernel_rfl) (fun _ _ _ h => h) (Or.inl ⟨by kernel_rfl, ?hy⟩) hS ?_
  case hy =>
    intro W hW
    skip
    go_simp
    try with_reducible rfl
  (try simp only [Act.put]); (try simp only [List.setIfInBounds_toArray]); (try simp only [List.set_cons_succ]); (try simp only [List.set_cons_zero])
  refine wpN_take (i := 5) (v := ?_) rfl rfl (by kernel_rfl) (by kernel_rfl) (by kernel_rfl) (by kernel_rfl) (fun _ _ _ h => h) (Or.inl ⟨by kernel_rfl, ?hy⟩) hS ?_
  case hy =>
    intro W hW
    skip
    go_simp
    try with_reducible rfl
  (try simp only [Act.put]); (try simp only [List.setIfInBounds_toArray]); (try simp only [List.set_cons_succ]); (try simp only [List.set_cons_zero])
  refine wpN_take (i := 6) (v := ?_) rfl rfl (by kernel_rfl) (by kernel_rfl) (by kernel_rfl) (by kernel_rfl) (fun _ _ _ h => h) (Or.inl ⟨by kernel_rfl, ?hy⟩) hS ?_
  case hy =>
    intro W hW
    skip
    go_simp
    try with_reducible rfl
  (try simp only [Act.put]); (try simp only [List.setIfInBounds_toArray]); (try simp only [List.set_cons_succ]); (try simp only [List.set_cons_zero])
  refine wpN_take (i := 7) (v := ?_) rfl rfl (by kernel_rfl) (by kernel_rfl) (by kernel_rfl) (by kernel_rfl) (fun _ _ _ h => h) (Or.inl ⟨by kernel_rfl, ?hy⟩) hS ?_
  case hy =>
    intro W hW
    have y0 := hW.2.1.cell 0; have y1 := hW.2.1.cell 1
    go_simp
    try with_reducible rfl
  (try simp only [Act.put]); (try simp only [List.setIfInBounds_toArray]); (try simp only [List.set_cons_succ]); (try simp only [List.set_cons_zero])
  refine wpN_take (i := 8) (v := ?_) rfl rfl (by kernel_rfl) (by kernel_rfl) (by kernel_rfl) (by kernel_rfl) (fun _ _ _ h => h) (Or.inl ⟨by kernel_rfl, ?hy⟩) hS ?_
  case hy =>
    intro W hW
    skip
    go_simp
    try with_reducible rfl
  (try simp only [Act.put]); (try simp only [List.setIfInBounds_toArray]); (try simp only [List.set_cons_succ]); (try simp only [List.set_cons_zero])
  refine wpN_take (i := 9) (v := ?_) rfl rfl (by kernel_rfl) (by kernel_rfl) (by kernel_rfl) (by kernel_rfl) (fun _ _ _ h => h) (Or.inl ⟨by kernel_rfl, ?hy⟩) hS ?_
  case hy =>
    intro W hW
    have y := E0.out
    go_simp
    try with_reducible rfl
  (try simp only [Act.put]); (try simp only [List.setIfInBounds_toArray]); (try simp only [List.set_cons_succ]); (try simp only [List.set_cons_zero])
  refine wpN_take (i := 10) (v := ?_) rfl rfl (by kernel_rfl) (by kernel_rfl) (by kernel_rfl) (by kernel_rfl) (fun _ _ _ h => h) (Or.inl ⟨by kernel_rfl, ?hy⟩) hS ?_
  case hy =>
    intro W hW
    skip
    go_simp
    try with_reducible rfl
  (try simp only [Act.put]); (try simp only [List.setIfInBounds_toArray]); (try simp only [List.set_cons_succ]); (try simp only [List.set_cons_zero])
  refine wpN_take (i := 11) (v := ?_) rfl rfl (by kernel_rfl) (by kernel_rfl) (by kernel_rfl) (by kernel_rfl) (fun _ _ _ h => h) (Or.inl ⟨by kernel_rfl, ?hy⟩) hS ?_
  case hy =>
    intro W hW
    skip
    go_simp
    try with_reducible rfl
  (try simp only [Act.put]); (try simp only [List.setIfInBounds_toArray]); (try simp only [List.set_cons_succ]); (try simp only [List.set_cons_zero])
  refine wpN_take (i := 12) (v := ?_) rfl rfl (by kernel_rfl) (by kernel_rfl) (by kernel_rfl) (by kernel_rfl) (fun _ _ _ h => h) (Or.inl ⟨by kernel_rfl, ?hy⟩) hS ?_
  case hy =>
    intro W hW
    skip
    go_simp
    try with_reducible rfl
  (try simp only [Act.put]); (try simp only [List.setIfInBounds_toArray]); (try simp only [List.set_cons_succ]); (try simp only [List.set_cons_zero])
  refine wpN_take (i := 13) (v := ?_) rfl rfl (by kernel_rfl) (by kernel_rfl) (by kernel_rfl) (by kernel_rfl) (fun _ _ _ h => h) (Or.inl ⟨by kernel_rfl, ?hy⟩) hS ?_
  case hy =>
    intro W hW
    skip
    go_simp
    try with_reducible rfl
  (try simp only [Act.put]); (try simp only [List.setIfInBounds_toArray]); (try simp only [List.set_cons_succ]); (try simp only [List.set_cons_zero])
  refine wpN_take (i := 14) (v := ?_) rfl rfl (by kernel_rfl) (by kernel_rfl) (by kernel_rfl) (by kernel_rfl) (fun _ _ _ h => h) (Or.inl ⟨by kernel_rfl, ?hy⟩) hS ?_
  case hy =>
    intro W hW
    skip
    go_simp
    try with_reducible rfl
  (try simp only [Act.put]); (try simp only [List.setIfInBounds_toArray]); (try simp only [List.set_cons_succ]); (try simp only [List.set_cons_zero])
  refine wpN_take (i := 15) (v := ?_) rfl rfl (by kernel_rfl) (by kernel_rfl) (by kernel_rfl) (by kernel_rfl) (fun _ _ _ h => h) (Or.inl ⟨by kernel_rfl, ?hy⟩) hS ?_
  case hy =>
    intro W hW
    skip
    go_simp
    try with_reducible rfl
  (try simp only [Act.put]); (try simp only [List.setIfInBounds_toArray]); (try simp only [List.set_cons_succ]); (try simp only [List.set_cons_zero])
  refine wpN_take (i := 16) (v := ?_) rfl rfl (by kernel_rfl) (by kernel_rfl) (by kernel_rfl) (by kernel_rfl) (fun _ _ _ h => h) (Or.inl ⟨by kernel_rfl, ?hy⟩) hS ?_
  case hy =>
    intro W hW
    skip
    go_simp
    try with_reducible rfl
  (try simp only [Act.put]); (try simp only [List.setIfInBounds_toArray]); (try simp only [List.set_cons_succ]); (try simp only [List.set_cons_zero])
  refine wpN_take (i := 17) (v := ?_) rfl rfl (by kernel_rfl) (by kernel_rfl) (by kernel_rfl) (by kernel_rfl) (fun _ _ _ h => h) (Or.inl ⟨by kernel_rfl, ?hy⟩) hS ?_
  case hy =>
    intro W hW
    skip
    go_simp
    try with_reducible rfl
  (try simp only [Act.put]); (try simp only [List.setIfInBounds_toArray]); (try simp only [List.set_cons_succ]); (try simp only [List.set_cons_zero])
  refine wpN_take (i := 18) (v := ?_) rfl rfl (by kernel_rfl) (by kernel_rfl) (by kernel_rfl) (by kernel_rfl) (fun _ _ _ h => h) (Or.inl ⟨by kernel_rfl, ?hy⟩) hS ?_
  case hy =>
    intro W hW
    skip
    go_simp
    try with_reducible rfl
  (try simp only [Act.put]); (try simp only [List.setIfInBounds_toArray]); (try simp only [List.set_cons_succ]); (try simp only [List.set_cons_zero])
  refine wpN_take (i := 19) (v := ?_) rfl rfl (by kernel_rfl) (by kernel_rfl) (by kernel_rfl) (by kernel_rfl) (fun _ _ _ h => h) (Or.inl ⟨by kernel_rfl, ?hy⟩) hS ?_
  case hy =>
    intro W hW
    skip
    go_simp
    try with_reducible rfl
  (try simp only [Act.put]); (try simp only [List.setIfInBounds_toArray]); (try simp only [List.set_cons_succ]); (try simp only [List.set_cons_zero])
  refine wpN_take (i := 20) (v := ?_) rfl rfl (by kernel_rfl) (by kernel_rfl) (by kernel_rfl) (by kernel_rfl) (fun _ _ _ h => h) (Or.inl ⟨by kernel_rfl, ?hy⟩) hS ?_
  case hy =>
    intro W hW
    skip
    go_simp
    try with_reducible rfl
  (try simp only [Act.put]); (try simp only [List.setIfInBounds_toArray]); (try simp only [List.set_cons_succ]); (try simp only [List.set_cons_zero])
  refine wpN_take (i := 22) (v := ?_) rfl rfl (by kernel_rfl) (by kernel_rfl) (by kernel_rfl) (by kernel_rfl) (fun _ _ _ h => h) (Or.inl ⟨by kernel_rfl, ?hy⟩) hS ?_
  case hy =>
    intro W hW
    have y0 := hW.1.cell 0; have y1 := hW.1.cell 1
    go_simp
    try with_reducible rfl
  (try simp only [Act.put]); (try simp only [List.setIfInBounds_toArray]); (try simp only [List.set_cons_succ]); (try simp only [List.set_cons_zero])
  refine wpN_only (i := 21) rfl (by kernel_rfl) (fun K hK => ?_)
  go_simp
  go_at_call 17
  refine (Get_calls p _ _ _ as3 ⟨#[97]⟩ _ hS.2.2.2 (by decide)).mono ?_
  rw [ag3]
  rintro e w' ⟨rfl, hb2⟩
  refine goto hK ⟨hS.1.below hb2, hS.2.1.below hb2, below_then hS.2.2.1 hS.2.2.1.size hb2, hS.2.2.2.chg (Chg.of_below (F := fun _ => False) hb2) (fun _ _ h => h)⟩ ?_
  clear hS hK K
  intro hS
  (try simp only [Act.put]); (try simp only [List.setIfInBounds_toArray]); (try simp only [List.set_cons_succ]); (try simp only [List.set_cons_zero])
  refine wpN_take (i := 23) (v := ?_) rfl rfl (by kernel_rfl) (by kernel_rfl) (by kernel_rfl) (by kernel_rfl) (fun _ _ _ h => h) (Or.inl ⟨by kernel_rfl, ?hy⟩) hS ?_
  case hy =>
    intro W hW
    have y := E1.out
    go_simp
    try with_reducible rfl
  (try simp only [Act.put]); (try simp only [List.setIfInBounds_toArray]); (try simp only [List.set_cons_succ]); (try simp only [List.set_cons_zero])
  refine wpN_take (i := 24) (v := ?_) rfl rfl (by kernel_rfl) (by kernel_rfl) (by kernel_rfl) (by kernel_rfl) (fun _ _ _ h => h) (Or.inl ⟨by kernel_rfl, ?hy⟩) hS ?_
  case hy =>
    intro W hW
    skip
    go_simp
    try with_reducible rfl
  (try simp only [Act.put]); (try simp only [List.setIfInBounds_toArray]); (try simp only [List.set_cons_succ]); (try simp only [List.set_cons_zero])
  refine wpN_take (i := 25) (v := ?_) rfl rfl (by kernel_rfl) (by kernel_rfl) (by kernel_rfl) (by kernel_rfl) (fun _ _ _ h => h) (Or.inl ⟨by kernel_rfl, ?hy⟩) hS ?_
  case hy =>
    intro W hW
    skip
    go_simp
    try with_reducible rfl
  (try simp only [Act.put]); (try simp only [List.setIfInBounds_toArray]); (try simp only [List.set_cons_succ]); (try simp only [List.set_cons_zero])
  refine wpN_take (i := 26) (v := ?_) rfl rfl (by kernel_rfl) (by kernel_rfl) (by kernel_rfl) (by kernel_rfl) (fun _ _ _ h => h) (Or.inl ⟨by kernel_rfl, ?hy⟩) hS ?_
  case hy =>
    intro W hW
    skip
    go_simp
    try with_reducible rfl
  (try simp only [Act.put]); (try simp only [List.setIfInBounds_toArray]); (try simp only [List.set_cons_succ]); (try simp only [List.set_cons_zero])
  refine wpN_only (i := 27) rfl (by kernel_rfl) (fun K hK => ?_)
  go_simp
  go_at_call 16
  refine (Open_calls p _ _ _ as3 _ hS.2.2.2 hM).mono ?_
  rintro e w' ⟨v, ks, rfl, hki, hkl, hown, hb2⟩
  have hks : ks = [] := by
    rcases ks with _ | ⟨a, l⟩
    · rfl
    · have := (hki.mem a).1 (by simp)
      rw [ao3] at this
      cases this
  subst hks
  obtain ⟨A', c', hv, -, -, -⟩ := hown.reads (fun _ => rfl)
  subst hv
  rw [show ([] : List Int).length = 0 from rfl]
  refine goto hK ⟨hS.1.below hb2, hS.2.1.below hb2, below_then hS.2.2.1 hS.2.2.1.size hb2, hS.2.2.2.chg (Chg.of_below (F := fun _ => False) hb2) (fun _ _ h => h)⟩ ?_
  clear hS hK K
  intro hS
  (try simp only [Act.put]); (try simp only [List.setIfInBounds_toArray]); (try simp only [List.set_cons_succ]); (try simp only [List.set_cons_zero])
  refine wpN_only (i := 28) rfl (by kernel_rfl) (fun K hK => ?_)
  go_simp
  refine goto hK hS ?_
  clear hS hK K
  intro hS
  (try simp only [Act.put]); (try simp only [List.setIfInBounds_toArray]); (try simp only [List.set_cons_succ]); (try simp only [List.set_cons_zero])
  refine wpN_only (i := 29) rfl (by kernel_rfl) (fun K hK => ?_)
  go_simp
  refine goto hK hS ?_
  clear hS hK K
  intro hS
  (try simp only [Act.put]); (try simp only [List.setIfInBounds_toArray]); (try simp only [List.set_cons_succ]); (try simp only [List.set_cons_zero])
  refine wpN_only (i := 30) rfl (by kernel_rfl) (fun K hK => ?_)
  go_simp
  refine goto hK hS ?_
  clear hS hK K
  intro hS
  (try simp only [Act.put]); (try simp only [List.setIfInBounds_toArray]); (try simp only [List.set_cons_succ]); (try simp only [List.set_cons_zero])
  refine wpN_only (i := 31) rfl (by kernel_rfl) (fun K hK => ?_)
  go_simp
  refine goto hK hS ?_
  clear hS hK K
  intro hS
  (try simp only [Act.put]); (try simp only [List.setIfInBounds_toArray]); (try simp only [List.set_cons_succ]); (try simp only [List.set_cons_zero])
  refine wpN_done (by kernel_rfl) ?_ _
  refine NoPanic.normal ?_
  have hE := hS.2.2.1
  clear hS
  go_wp2_with fail
  go_ret
  exact ⟨rfl, hE⟩
end Go.Proofs.Ytbjpilnlkmajpaa
