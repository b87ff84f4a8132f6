import Derived.Test.YtbjpilnlkmajpaaAwk
import Derived.Test.YtbjpilnlkmajpaaRef3
namespace Go.Proofs.Ytbjpilnlkmajpaa
set_option linter.unusedVariables false
set_option linter.unusedSimpArgs false
open Go.RowKit Go.Maps Go.Proofs.K

theorem small_of_great {l : List BR} (h : greatB l = false) (h60 : l.length ≤ 60) : ∀ x ∈ l, x.r.key.size ≤ maxLen ∧ x.r.aft.s.size ≤ maxLen := by
  intro x hx
  unfold greatB greatF at h
  rw [List.take_of_length_le (by omega)] at h
  simp only [Bool.or_eq_false_iff, List.any_eq_false, List.mem_map, forall_exists_index, and_imp] at h
  have := h.2 x.r x hx rfl
  simp [bigF] at this
  unfold maxLen
  omega
/-- The state of the loop: what one by one has come to. -/
def PartS (s0 : RS) (l : List BR) (k : Nat) (fl : Int) (sb : RS) : Prop :=
  (fl = 0 ∧ takesF s0 l = (k + (takesF sb (l.drop k)).1, (takesF sb (l.drop k)).2)) ∨ (fl ≠ 0 ∧ takesF s0 l = (k, fl, sb))
theorem PartS.begin (s0 : RS) (l : List BR) : PartS s0 l 0 0 s0 := .inl ⟨rfl, by simp⟩
theorem PartS.step {s0 sb : RS} {l : List BR} {k : Nat} (h : PartS s0 l k 0 sb) (hk : k < l.length) {x : BR} (hx : x = l[k]) :
    PartS s0 l (k + (takesF sb [x]).1) (takesF sb [x]).2.1 (takesF sb [x]).2.2 ∧ (takesF sb [x]).1 ≤ 1 ∧ ((takesF sb [x]).2.1 = 0 → (takesF sb [x]).1 = 1) := by
  rcases h with ⟨_, h⟩ | ⟨h, _⟩
  · by_cases hm : mayF sb.gsn sb.str (sb.opn x.r.txn).isSome x = 0
    · have e : takesF sb [x] = (1, 0, takeS sb x) := by simp [takesF, hm]
      rw [e]
      exact ⟨.inl ⟨rfl, takes_step hk hx h hm⟩, Nat.le_refl _, fun _ => rfl⟩
    · have e : takesF sb [x] = (0, mayF sb.gsn sb.str (sb.opn x.r.txn).isSome x, sb) := by simp [takesF, hm]
      rw [e]
      exact ⟨.inr ⟨hm, takes_stop hk hx h hm⟩, by simp, fun h => absurd h hm⟩
  · exact absurd rfl h
theorem PartS.done {s0 sb : RS} {l : List BR} {k : Nat} {fl : Int} (h : PartS s0 l k fl sb) (hk : fl = 0 → k = l.length) : takesF s0 l = (k, fl, sb) := by
  rcases h with ⟨h0, h⟩ | ⟨_, h⟩
  · subst h0
    obtain rfl := hk rfl
    exact takes_end h
  · exact h

set_option maxHeartbeats 4000000 in
set_option maxRecDepth 100000 in
theorem parts_calls (A : Option Addr) (c : Nat) (l : List BR) (w : World) (hr : RowOf encBR 12 w A l) (hl : l.length ≤ 9223372036854775807) (hc : l.length ≤ c) (hc2 : c ≤ maxLen) (hwf : ∀ x ∈ l, (Lit.int .i64 x.r.txn).wf = true) :
    Calls Try.prog 4 #[.slice A l.length c] w fun e w' => e = .returned (.bool true) ∧ Below w.heap.size w w' := by
  have HR := Sh.mk hr
  have HW := Sh.mk hwf
  have HG := Sh.mk (great18_calls A c l w hr hl)
  clear hr hwf
  generalize hgr : greatB l = gr at HG
  have hgr := Sh.mk hgr
  cases hg : gr
  · subst hg
    by_cases h60 : 60 < l.length
    · have hd : decide ((60 : Int) < (l.length : Int)) = true := by simp; omega
      go_enter Try.func4, Try.ntmps4
      go_wp2_with (first | (go_at_call 5; refine HG.out.mono ?_; rintro e w' ⟨rfl, hb1⟩) | (go_at_call 6; refine (awake_calls _).mono ?_; rintro e w' ⟨rfl, hb2⟩))
      go_ret
      exact ⟨rfl, below_trans hb1 hb2⟩
    · have hd : decide ((60 : Int) < (l.length : Int)) = false := by simp; omega
      have hsm := Sh.mk (small_of_great hgr.out (by omega))
      go_enter Try.func4, Try.ntmps4
      go_wp2_with (first | (go_at_call 5; refine HG.out.mono ?_; rintro e wg ⟨rfl, hb1⟩) | (go_at_call 6; refine (awake_calls _).mono ?_; rintro e wa ⟨rfl, hb2⟩))
      have hba := below_trans hb1 hb2
      have has := hba.size
      have HB := Sh.mk hba
      clear hb1 hb2 HG hgr
      refine (New_calls none 0 [] wa (RowOf.nil _ _) (by simp) (by simp)).mono ?_
      rintro e w1 ⟨pa, rfl, hpa, hsa, hb⟩
      have h1s := hb.size
      replace HB := Sh.mk (below_trans HB.out (hb.mono (by omega)))
      clear hb
      go_wp2_with fail
      refine (New_calls none 0 [] w1 (RowOf.nil _ _) (by simp) (by simp)).mono ?_
      rintro e w2 ⟨pb, rfl, hpb, hsb, hb⟩
      have h2s := hb.size
      replace HB := Sh.mk (below_trans HB.out (hb.mono (by omega)))
      replace hsa := Sh.mk (hsa.chg (Chg.of_below (F := fun _ => False) hb) (fun _ _ h => h))
      replace hsb := Sh.mk hsb
      clear hb
      go_wp2_with fail
      refine (Of_calls A c l w2 (HR.out.below HB.out) (by omega)).mono ?_
      rintro e w3 ⟨v, rfl, ho, hb⟩
      obtain ⟨A1, c1, hv, -, -, hrow⟩ := ho.reads (fun _ => rfl)
      subst hv
      have hA : ∀ a, A1 = some a → ¬ (wa.heap.size ≤ a.block ∧ a.block < w1.heap.size) := fun a ha => by
        have := (ho.lt a.block (by rw [ha]; rfl)).1
        omega
      have h3s := hb.size
      replace HB := Sh.mk (below_trans HB.out (hb.mono (by omega)))
      replace hsa := Sh.mk (hsa.out.chg (Chg.of_below (F := fun _ => False) hb) (fun _ _ h => h))
      replace hsb := Sh.mk (hsb.out.chg (Chg.of_below (F := fun _ => False) hb) (fun _ _ h => h))
      have HROW := Sh.mk hrow
      have HA := Sh.mk hA
      clear hb ho hrow hA
      have hq : l.length * (0 + l.length) ≤ 60 * 60 := Nat.mul_le_mul (by omega) (by omega)
      have HQ := Sh.mk hq
      clear hq
      have HWF := Sh.mk (fun x hx => (⟨HW.out x hx, hsm.out x hx⟩ : _ ∧ _))
      go_wp2_with fail
      refine (Take_calls pa 0 0 _ (newS []) A1 c1 l w3 hsa.out HROW.out HA.out HWF.out (by have := HQ.out; simp only [List.length_nil] at *; unfold maxLen; omega) (by omega)).mono ?_
      rintro e w4 ⟨rfl, hsa4, hc4⟩
      have h4s := hc4.size
      have hsb4 := hsb.out.chg hc4 (by intro k h1 h2; omega)
      replace HB := Sh.mk (((Chg.of_below (F := fun k => w.heap.size ≤ k) HB.out).trans hc4 (fun k _ h => by omega)).below (fun k hk h => by omega))
      replace hsa := Sh.mk (hsa4.tight.mono (N' := 3600) (M' := 60) (F' := fun k => wa.heap.size ≤ k ∧ k < w4.heap.size ∧ ¬ (w1.heap.size ≤ k ∧ k < w2.heap.size)) (by have := HQ.out; simp only [List.length_nil] at *; omega) (by omega) (by rintro k ⟨h1 | h1, h2⟩ <;> exact ⟨by omega, h2, by omega⟩))
      replace hsb := Sh.mk (hsb4.mono (N' := 1 * 61) (M' := 1) (F' := fun k => wa.heap.size ≤ k ∧ k < w4.heap.size ∧ (w1.heap.size ≤ k ∧ k < w2.heap.size)) (by simp) (by omega) (by rintro k h; exact ⟨by omega, by omega, by omega⟩))
      generalize hFA : (fun k => wa.heap.size ≤ k ∧ k < w4.heap.size ∧ ¬ (w1.heap.size ≤ k ∧ k < w2.heap.size)) = FA at hsa
      have HFA := Sh.mk (show ∀ k, FA k → wa.heap.size ≤ k ∧ k < w4.heap.size by intro k hk; rw [← hFA] at hk; exact ⟨hk.1, hk.2.1⟩)
      have HFB0 : Sh (∃ FB : Nat → Prop, (∀ k, FB k → wa.heap.size ≤ k ∧ k < w4.heap.size ∧ ¬ FA k) ∧ ∃ m, m ≤ 62 ∧ m ≤ 0 + 1 ∧ IsRep w4 pb (m * 61) m FB (newS [])) := ⟨_, fun k hk => ⟨hk.1, hk.2.1, by rw [← hFA]; exact fun h => h.2.2 hk.2.2⟩, 1, by omega, by omega, hsb.out⟩
      clear hFA hc4 hsa4 hsb4 hsb HROW HA
      generalize hRT : takesF (newS []) l = RT at hsa ⊢
      have HRT := Sh.mk hRT
      clear hRT
      go_wp2_with fail
      go_loopw [7, 8, 9] (fun i f _ wr => ∃ (k : Nat) (fl : Int) (sb : RS), k ≤ l.length ∧ i = .int .i64 k ∧ f = .int .i64 fl ∧ Sh (PartS (newS []) l k fl sb) ∧ Sh (∃ FB : Nat → Prop, (∀ k, FB k → wa.heap.size ≤ k ∧ k < wr.heap.size ∧ ¬ FA k) ∧ ∃ m, m ≤ 62 ∧ (fl = 0 → m ≤ k + 1) ∧ IsRep wr pb (m * 61) m FB sb) ∧ Sh (IsRep wr pa 3600 60 FA RT.2.2) ∧ Sh (Below w.heap.size w wr) ∧ w4.heap.size ≤ wr.heap.size) (fun i f _ _ => (l.length - (intOf i).toNat) * 2 + (if intOf f = 0 then 1 else 0))
      case atStart => exact ⟨0, 0, newS [], Nat.zero_le _, rfl, rfl, ⟨PartS.begin _ _⟩, ⟨by obtain ⟨FB, h1, m, h2, h3, h4⟩ := HFB0.out; exact ⟨FB, h1, m, h2, fun _ => h3, h4⟩⟩, hsa, HB, Nat.le_refl _⟩
      case round =>
        obtain ⟨k, fl, sb, hk, rfl, rfl, HP, HFB, HSA, HB2, h4⟩ := hrel
        clear hsa HB HFB0
        by_cases hlt : k < l.length
        · by_cases hf : fl = 0
          · subst hf
            obtain ⟨x, hx⟩ : ∃ x, x = l[k] := ⟨_, rfl⟩
            obtain ⟨b, off, rfl, hcc⟩ := HR.out k hlt
            have HX := Sh.mk hx
            have hkc : k + 1 ≤ c := by omega
            unfold maxLen at hc2
            clear hx hcc
            go_wp2_with fail
            have hrx : RowOf encBR 12 wr (some ⟨b, off + k * 12, none⟩) [x] := by
              have h := ((HR.out.below HB2.out).drop k).take 1
              rw [List.drop_eq_getElem_cons hlt, ← HX.out] at h
              exact h
            refine (Of_calls (some ⟨b, off + k * 12, none⟩) (c - k) [x] wr hrx (by simp)).mono ?_
            clear hrx
            rintro e w5 ⟨v, rfl, ho, hb⟩
            obtain ⟨A1, c1, hv, -, -, hrow⟩ := ho.reads (fun _ => rfl)
            subst hv
            obtain ⟨FB, hFB, m, hm, hmk, hI⟩ := HFB.out
            have hA : ∀ a, A1 = some a → ¬ FB a.block := fun a ha h => by
              have := (ho.lt a.block (by rw [ha]; rfl)).1
              have := (hFB _ h).2.1
              omega
            have h5s := hb.size
            have HI5 := Sh.mk (hI.chg (Chg.of_below (F := fun _ => False) hb) (fun _ _ h => h))
            have HSA5 := Sh.mk (HSA.out.chg (Chg.of_below (F := fun _ => False) hb) (fun _ _ h => h))
            have HB5 := Sh.mk (below_trans HB2.out (hb.mono (by have := HB2.out.size; omega)))
            have HF := Sh.mk hFB
            have HROW := Sh.mk hrow
            have HA := Sh.mk hA
            clear hb ho hrow hA hI HFB HSA HB2 hFB
            have hmk1 := hmk (by trivial)
            go_wp2_with fail
            refine (Take_calls pb _ _ FB sb A1 c1 [x] w5 HI5.out HROW.out HA.out (by intro y hy; obtain rfl := List.mem_singleton.1 hy; exact HWF.out _ (HX.out ▸ List.getElem_mem hlt)) (by simp only [List.length_singleton]; unfold maxLen; omega) (by simp only [List.length_singleton]; omega)).mono ?_
            rintro e w6 ⟨rfl, hI6, hc6⟩
            have h6s := hc6.size
            obtain ⟨hP2, hr1, hr2⟩ := HP.out.step hlt HX.out
            simp only [List.length_singleton] at hI6
            generalize takesF sb [x] = r at hP2 hr1 hr2 hI6 ⊢
            have HP2 := Sh.mk hP2
            have HR2 := Sh.mk hr2
            have HFB6 : Sh (∃ FB : Nat → Prop, (∀ k, FB k → wa.heap.size ≤ k ∧ k < w6.heap.size ∧ ¬ FA k) ∧ ∃ m, m ≤ 62 ∧ (r.2.1 = 0 → m ≤ (k + r.1) + 1) ∧ IsRep w6 pb (m * 61) m FB r.2.2) :=
              ⟨_, fun i hi => ⟨by rcases hi.1 with h | h; exact (HF.out i h).1; omega, hi.2, by rcases hi.1 with h | h; exact (HF.out i h).2.2; exact fun hf => by have := (HFA.out i hf).2; omega⟩, m + 1, by omega, fun h => by have := hr2 h; omega, hI6.tight.mono (by omega) (by omega) (fun _ h => h)⟩
            have HSA6 := Sh.mk (HSA5.out.chg hc6 (fun i hi hf => (HF.out i hf).2.2 hi))
            have HB6 := Sh.mk (((Chg.of_below (F := fun k => w.heap.size ≤ k) HB5.out).trans hc6 (fun i _ h => by have := (HF.out i h).1; omega)).below (fun k hk h => by omega))
            clear hP2 hI6 hc6 HI5 HSA5 HB5 HROW HA HP HF hr2 hmk
            go_wp2_with fail
            go_roundw
            case rel => exact ⟨k + r.1, r.2.1, r.2.2, by omega, by go_num, rfl, HP2, HFB6, HSA6, HB6, by omega⟩
            case measure =>
              have := HR2.out
              have hk0 : ((k : Int) + (r.1 : Int)).toNat = k + r.1 := by omega
              simp [intOf, hk0]
              by_cases h : r.2.1 = 0
              · have := this h; simp [h]; omega
              · simp [h]; omega
          · have hfz : (fl == 0) = false := by simp [hf]
            obtain ⟨FB, hFB, m, hm, hmk, hI⟩ := HFB.out
            have HSB := Sh.mk hI
            clear hI hFB hmk HFB
            have hD := HP.out.done (fun h => absurd h hf)
            rw [HRT.out] at hD
            subst hD
            dsimp only at HSA ⊢
            clear HP
            go_wp2_with fail
            refine (Place_calls pa _ _ FA sb wr HSA.out).mono ?_
            rintro e v1 ⟨rfl, hb1⟩
            have hs1 := hb1.size
            replace HSA := Sh.mk (HSA.out.chg (Chg.of_below (F := fun _ => False) hb1) (fun _ _ h => h))
            replace HSB := Sh.mk (HSB.out.chg (Chg.of_below (F := fun _ => False) hb1) (fun _ _ h => h))
            replace HB2 := Sh.mk (below_trans HB2.out (hb1.mono (by have := HB2.out.size; omega)))
            clear hb1
            go_wp2_with fail
            refine (Place_calls pb _ _ FB sb v1 HSB.out).mono ?_
            rintro e v2 ⟨rfl, hb2⟩
            have hs2 := hb2.size
            replace HSA := Sh.mk (HSA.out.chg (Chg.of_below (F := fun _ => False) hb2) (fun _ _ h => h))
            replace HSB := Sh.mk (HSB.out.chg (Chg.of_below (F := fun _ => False) hb2) (fun _ _ h => h))
            replace HB2 := Sh.mk (below_trans HB2.out (hb2.mono (by have := HB2.out.size; omega)))
            clear hb2
            go_wp2_with fail
            refine (Cells_calls pa _ _ FA sb v2 HSA.out (by omega)).mono ?_
            rintro e v3 ⟨c3, ks3, rfl, hk3, hn3, ho3, hb3⟩
            obtain ⟨A3, d3, hv3, -, -, hr3⟩ := ho3.reads (fun _ => rfl)
            subst hv3
            have hs3 := hb3.size
            replace HSA := Sh.mk (HSA.out.chg (Chg.of_below (F := fun _ => False) hb3) (fun _ _ h => h))
            replace HSB := Sh.mk (HSB.out.chg (Chg.of_below (F := fun _ => False) hb3) (fun _ _ h => h))
            replace HB2 := Sh.mk (below_trans HB2.out (hb3.mono (by have := HB2.out.size; omega)))
            have HR3 := Sh.mk hr3
            clear hb3 hr3 ho3
            go_wp2_with fail
            refine (Cells_calls pb _ _ FB sb v3 HSB.out (by omega)).mono ?_
            rintro e v4 ⟨c4, ks4, rfl, hk4, hn4, ho4, hb4⟩
            obtain ⟨A4, d4, hv4, -, -, hr4⟩ := ho4.reads (fun _ => rfl)
            subst hv4
            obtain rfl : ks3 = ks4 := hk3.unique hk4 fun _ => rfl
            have hs4 := hb4.size
            replace HSA := Sh.mk (HSA.out.chg (Chg.of_below (F := fun _ => False) hb4) (fun _ _ h => h))
            replace HSB := Sh.mk (HSB.out.chg (Chg.of_below (F := fun _ => False) hb4) (fun _ _ h => h))
            replace HB2 := Sh.mk (below_trans HB2.out (hb4.mono (by have := HB2.out.size; omega)))
            replace HR3 := Sh.mk (HR3.out.below hb4)
            have HR4 := Sh.mk hr4
            have hlc : (cellsOf sb.now ks3).length ≤ 9223372036854775807 := by simp [cellsOf]; omega
            clear hb4 hr4 ho4 hk4
            generalize cellsOf sb.now ks3 = cl at HR3 HR4 hlc ⊢
            go_wp2_with fail
            refine (cells_calls A3 A4 d3 d4 cl cl v4 HR3.out HR4.out hlc hlc).mono ?_
            rw [show decide (cl = cl) = true from by simp]
            rintro e v5 ⟨rfl, hb5⟩
            have hs5 := hb5.size
            replace HSA := Sh.mk (HSA.out.chg (Chg.of_below (F := fun _ => False) hb5) (fun _ _ h => h))
            replace HSB := Sh.mk (HSB.out.chg (Chg.of_below (F := fun _ => False) hb5) (fun _ _ h => h))
            replace HB2 := Sh.mk (below_trans HB2.out (hb5.mono (by have := HB2.out.size; omega)))
            clear hb5 HR3 HR4
            go_wp2_with fail
            refine (Open_calls pa _ _ FA sb v5 HSA.out (by omega)).mono ?_
            rintro e v6 ⟨c6, js6, rfl, hk6, hn6, ho6, hb6⟩
            obtain ⟨A6, d6, hv6, -, -, hr6⟩ := ho6.reads (fun _ => rfl)
            subst hv6
            have hs6 := hb6.size
            replace HSA := Sh.mk (HSA.out.chg (Chg.of_below (F := fun _ => False) hb6) (fun _ _ h => h))
            replace HSB := Sh.mk (HSB.out.chg (Chg.of_below (F := fun _ => False) hb6) (fun _ _ h => h))
            replace HB2 := Sh.mk (below_trans HB2.out (hb6.mono (by have := HB2.out.size; omega)))
            have HR6 := Sh.mk hr6
            clear hb6 hr6 ho6
            go_wp2_with fail
            refine (Open_calls pb _ _ FB sb v6 HSB.out (by omega)).mono ?_
            rintro e v7 ⟨c7, js7, rfl, hk7, hn7, ho7, hb7⟩
            obtain ⟨A7, d7, hv7, -, -, hr7⟩ := ho7.reads (fun _ => rfl)
            subst hv7
            obtain rfl : js6 = js7 := hk6.unique hk7 fun _ => rfl
            have hs7 := hb7.size
            replace HSA := Sh.mk (HSA.out.chg (Chg.of_below (F := fun _ => False) hb7) (fun _ _ h => h))
            replace HSB := Sh.mk (HSB.out.chg (Chg.of_below (F := fun _ => False) hb7) (fun _ _ h => h))
            replace HB2 := Sh.mk (below_trans HB2.out (hb7.mono (by have := HB2.out.size; omega)))
            replace HR6 := Sh.mk (HR6.out.below hb7)
            have HR7 := Sh.mk hr7
            have hlj : js6.length ≤ 9223372036854775807 := by omega
            clear hb7 hr7 ho7 hk7
            go_wp2_with fail
            refine (same_calls A6 A7 d6 d7 js6 js6 v7 HR6.out HR7.out hlj hlj).mono ?_
            rw [show decide (js6 = js6) = true from by simp]
            rintro e v8 ⟨rfl, hb8⟩
            have hs8 := hb8.size
            replace HSA := Sh.mk (HSA.out.chg (Chg.of_below (F := fun _ => False) hb8) (fun _ _ h => h))
            replace HSB := Sh.mk (HSB.out.chg (Chg.of_below (F := fun _ => False) hb8) (fun _ _ h => h))
            replace HB2 := Sh.mk (below_trans HB2.out (hb8.mono (by have := HB2.out.size; omega)))
            clear hb8 HR6 HR7
            go_wp2_with fail
            go_ret
            exact ⟨rfl, HB2.out⟩
        · obtain rfl : k = l.length := by omega
          obtain ⟨FB, hFB, m, hm, hmk, hI⟩ := HFB.out
          have HSB := Sh.mk hI
          clear hI hFB hmk HFB
          have hD := HP.out.done (fun _ => rfl)
          rw [HRT.out] at hD
          subst hD
          dsimp only at HSA ⊢
          clear HP
          go_wp2_with fail
          refine (Place_calls pa _ _ FA sb wr HSA.out).mono ?_
          rintro e v1 ⟨rfl, hb1⟩
          have hs1 := hb1.size
          replace HSA := Sh.mk (HSA.out.chg (Chg.of_below (F := fun _ => False) hb1) (fun _ _ h => h))
          replace HSB := Sh.mk (HSB.out.chg (Chg.of_below (F := fun _ => False) hb1) (fun _ _ h => h))
          replace HB2 := Sh.mk (below_trans HB2.out (hb1.mono (by have := HB2.out.size; omega)))
          clear hb1
          go_wp2_with fail
          refine (Place_calls pb _ _ FB sb v1 HSB.out).mono ?_
          rintro e v2 ⟨rfl, hb2⟩
          have hs2 := hb2.size
          replace HSA := Sh.mk (HSA.out.chg (Chg.of_below (F := fun _ => False) hb2) (fun _ _ h => h))
          replace HSB := Sh.mk (HSB.out.chg (Chg.of_below (F := fun _ => False) hb2) (fun _ _ h => h))
          replace HB2 := Sh.mk (below_trans HB2.out (hb2.mono (by have := HB2.out.size; omega)))
          clear hb2
          go_wp2_with fail
          refine (Cells_calls pa _ _ FA sb v2 HSA.out (by omega)).mono ?_
          rintro e v3 ⟨c3, ks3, rfl, hk3, hn3, ho3, hb3⟩
          obtain ⟨A3, d3, hv3, -, -, hr3⟩ := ho3.reads (fun _ => rfl)
          subst hv3
          have hs3 := hb3.size
          replace HSA := Sh.mk (HSA.out.chg (Chg.of_below (F := fun _ => False) hb3) (fun _ _ h => h))
          replace HSB := Sh.mk (HSB.out.chg (Chg.of_below (F := fun _ => False) hb3) (fun _ _ h => h))
          replace HB2 := Sh.mk (below_trans HB2.out (hb3.mono (by have := HB2.out.size; omega)))
          have HR3 := Sh.mk hr3
          clear hb3 hr3 ho3
          go_wp2_with fail
          refine (Cells_calls pb _ _ FB sb v3 HSB.out (by omega)).mono ?_
          rintro e v4 ⟨c4, ks4, rfl, hk4, hn4, ho4, hb4⟩
          obtain ⟨A4, d4, hv4, -, -, hr4⟩ := ho4.reads (fun _ => rfl)
          subst hv4
          obtain rfl : ks3 = ks4 := hk3.unique hk4 fun _ => rfl
          have hs4 := hb4.size
          replace HSA := Sh.mk (HSA.out.chg (Chg.of_below (F := fun _ => False) hb4) (fun _ _ h => h))
          replace HSB := Sh.mk (HSB.out.chg (Chg.of_below (F := fun _ => False) hb4) (fun _ _ h => h))
          replace HB2 := Sh.mk (below_trans HB2.out (hb4.mono (by have := HB2.out.size; omega)))
          replace HR3 := Sh.mk (HR3.out.below hb4)
          have HR4 := Sh.mk hr4
          have hlc : (cellsOf sb.now ks3).length ≤ 9223372036854775807 := by simp [cellsOf]; omega
          clear hb4 hr4 ho4 hk4
          generalize cellsOf sb.now ks3 = cl at HR3 HR4 hlc ⊢
          go_wp2_with fail
          refine (cells_calls A3 A4 d3 d4 cl cl v4 HR3.out HR4.out hlc hlc).mono ?_
          rw [show decide (cl = cl) = true from by simp]
          rintro e v5 ⟨rfl, hb5⟩
          have hs5 := hb5.size
          replace HSA := Sh.mk (HSA.out.chg (Chg.of_below (F := fun _ => False) hb5) (fun _ _ h => h))
          replace HSB := Sh.mk (HSB.out.chg (Chg.of_below (F := fun _ => False) hb5) (fun _ _ h => h))
          replace HB2 := Sh.mk (below_trans HB2.out (hb5.mono (by have := HB2.out.size; omega)))
          clear hb5 HR3 HR4
          go_wp2_with fail
          refine (Open_calls pa _ _ FA sb v5 HSA.out (by omega)).mono ?_
          rintro e v6 ⟨c6, js6, rfl, hk6, hn6, ho6, hb6⟩
          obtain ⟨A6, d6, hv6, -, -, hr6⟩ := ho6.reads (fun _ => rfl)
          subst hv6
          have hs6 := hb6.size
          replace HSA := Sh.mk (HSA.out.chg (Chg.of_below (F := fun _ => False) hb6) (fun _ _ h => h))
          replace HSB := Sh.mk (HSB.out.chg (Chg.of_below (F := fun _ => False) hb6) (fun _ _ h => h))
          replace HB2 := Sh.mk (below_trans HB2.out (hb6.mono (by have := HB2.out.size; omega)))
          have HR6 := Sh.mk hr6
          clear hb6 hr6 ho6
          go_wp2_with fail
          refine (Open_calls pb _ _ FB sb v6 HSB.out (by omega)).mono ?_
          rintro e v7 ⟨c7, js7, rfl, hk7, hn7, ho7, hb7⟩
          obtain ⟨A7, d7, hv7, -, -, hr7⟩ := ho7.reads (fun _ => rfl)
          subst hv7
          obtain rfl : js6 = js7 := hk6.unique hk7 fun _ => rfl
          have hs7 := hb7.size
          replace HSA := Sh.mk (HSA.out.chg (Chg.of_below (F := fun _ => False) hb7) (fun _ _ h => h))
          replace HSB := Sh.mk (HSB.out.chg (Chg.of_below (F := fun _ => False) hb7) (fun _ _ h => h))
          replace HB2 := Sh.mk (below_trans HB2.out (hb7.mono (by have := HB2.out.size; omega)))
          replace HR6 := Sh.mk (HR6.out.below hb7)
          have HR7 := Sh.mk hr7
          have hlj : js6.length ≤ 9223372036854775807 := by omega
          clear hb7 hr7 ho7 hk7
          go_wp2_with fail
          refine (same_calls A6 A7 d6 d7 js6 js6 v7 HR6.out HR7.out hlj hlj).mono ?_
          rw [show decide (js6 = js6) = true from by simp]
          rintro e v8 ⟨rfl, hb8⟩
          have hs8 := hb8.size
          replace HSA := Sh.mk (HSA.out.chg (Chg.of_below (F := fun _ => False) hb8) (fun _ _ h => h))
          replace HSB := Sh.mk (HSB.out.chg (Chg.of_below (F := fun _ => False) hb8) (fun _ _ h => h))
          replace HB2 := Sh.mk (below_trans HB2.out (hb8.mono (by have := HB2.out.size; omega)))
          clear hb8 HR6 HR7
          go_wp2_with fail
          go_ret
          exact ⟨rfl, HB2.out⟩
  · subst hg
    go_enter Try.func4, Try.ntmps4
    go_wp2_with (first | (go_at_call 5; refine HG.out.mono ?_; rintro e w' ⟨rfl, hb1⟩) | (go_at_call 6; refine (awake_calls _).mono ?_; rintro e w' ⟨rfl, hb2⟩))
    go_ret
    exact ⟨rfl, below_trans hb1 hb2⟩
end Go.Proofs.Ytbjpilnlkmajpaa
