import Derived.Test.YtbjpilnlkmajpaaRl0
import Derived.Deep.DeepCutAuto
import Derived.Deep.CutBlock
namespace Go.Proofs.Ytbjpilnlkmajpaa
set_option linter.unusedVariables false
set_option linter.unusedSimpArgs false
open Go.RowKit Go.Maps Go.Proofs.K

def encB (n : Int) : List Value := [.int .u8 n]
/-- The first loop: the cells so far. -/
structure LC (w wa W : World) (pm : Nat) (vn : Value) (n : List CL) : Prop where
  bp : Blk W pm 37 (vn :: .slice none 0 0 :: .slice none 0 0 :: encBR zB)
  n : Own encCell 39 2 W wa.heap.size vn n
  bl : Below w.heap.size w W
  sz : wa.heap.size < W.heap.size
theorem LC.below {w wa W W1 : World} {pm : Nat} {vn : Value} {n : List CL} (h : LC w wa W pm vn n) (hb : Below W.heap.size W W1) : LC w wa W1 pm vn n := ⟨h.bp.below hb, h.n.below hb, below_then h.bl h.bl.size hb, Nat.lt_of_lt_of_le h.sz hb.size⟩
theorem LC.set {w wa W : World} {pm : Nat} {vn v : Value} {n l : List CL} {base : Nat} (h : LC w wa W pm vn n) (ho : Own encCell 39 2 W base v l) (hb : wa.heap.size ≤ base) (hp : w.heap.size ≤ pm) : LC w wa (W.setCell ⟨pm, 0, none⟩ v) pm v l := by
  have hc : Chg (fun k => k = pm) W (W.setCell ⟨pm, 0, none⟩ v) := (Chg.refl (fun k => k = pm) W).setCell (p := ⟨pm, 0, none⟩) rfl v
  exact ⟨h.bp.set 0 v, (ho.lower hb).chg hc (fun k hk e => own_ne ho h.bp (by decide) k hk e), ((Chg.of_below (F := fun k => k = pm) h.bl).trans hc (fun _ _ h => h)).below (fun k hk e => by omega), Nat.lt_of_lt_of_le h.sz hc.size⟩

set_option maxHeartbeats 16000000 in
set_option maxRecDepth 100000 in
theorem rtakes_calls (Ac Al Ap : Option Addr) (cc cl cp : Nat) (cells : List CL) (l : List BR) (parts : List Int) (key : ByteArray) (w : World) (hrc : RowOf encCell 2 w Ac cells) (hrl : RowOf encBR 12 w Al l) (hrp : RowOf encB 1 w Ap parts)
    (hcl : l.length ≤ cl) (hcl2 : cl ≤ maxLen) (hcc : cells.length ≤ maxLen) (hcp : parts.length ≤ maxLen) (hwf : ∀ x ∈ l, (Lit.int .i64 x.r.txn).wf = true) (hpw : ∀ x ∈ parts, 0 ≤ x ∧ x < 256) (hks : key.size ≤ maxLen) :
    Calls Try.prog 3 #[.slice Ac cells.length cc, .slice Al l.length cl, .slice Ap parts.length cp, .string key] w fun e w' => e = .returned (.bool true) ∧ Below w.heap.size w w' := by
  unfold maxLen at hcc hcp
  have hml : l.length ≤ 9223372036854775807 := by unfold maxLen at hcl2; omega
  have HG := Sh.mk (great18_calls Al cl l w hrl hml)
  have HRC := Sh.mk hrc
  have HRL := Sh.mk hrl
  have HRP := Sh.mk hrp
  have HW := Sh.mk hwf
  have HPW := Sh.mk hpw
  clear hrc hrl hrp hwf hpw
  generalize hgr : greatB l = gr at HG
  have hgr := Sh.mk hgr
  cases hg : gr
  case true =>
    subst hg
    go_enter Try.func3, Try.ntmps3
    go_wp2_with (first | (go_at_call 5; refine HG.out.mono ?_; rintro e w' ⟨rfl, hb1⟩) | (go_at_call 6; refine (awake_calls _).mono ?_; rintro e w' ⟨rfl, hb2⟩))
    go_ret
    exact ⟨rfl, below_trans hb1 hb2⟩
  subst hg
  by_cases h60 : 60 < l.length
  case' pos =>
    have d0 : decide ((60 : Int) < (l.length : Int)) = true := by simp; omega
    go_enter Try.func3, Try.ntmps3
    go_wp2_with (first | (go_at_call 5; refine HG.out.mono ?_; rintro e w' ⟨rfl, hb1⟩) | (go_at_call 6; refine (awake_calls _).mono ?_; rintro e w' ⟨rfl, hb2⟩))
    go_ret
    exact ⟨rfl, below_trans hb1 hb2⟩
  have d0 : decide ((60 : Int) < (l.length : Int)) = false := by simp; omega
  by_cases h20 : 20 < cells.length
  case' pos =>
    have d1 : decide ((20 : Int) < (cells.length : Int)) = true := by simp; omega
    go_enter Try.func3, Try.ntmps3
    go_wp2_with (first | (go_at_call 5; refine HG.out.mono ?_; rintro e w' ⟨rfl, hb1⟩) | (go_at_call 6; refine (awake_calls _).mono ?_; rintro e w' ⟨rfl, hb2⟩))
    go_ret
    exact ⟨rfl, below_trans hb1 hb2⟩
  have d1 : decide ((20 : Int) < (cells.length : Int)) = false := by simp; omega
  by_cases hp60 : 60 < parts.length
  case' pos =>
    have d2 : decide ((60 : Int) < (parts.length : Int)) = true := by simp; omega
    go_enter Try.func3, Try.ntmps3
    go_wp2_with (first | (go_at_call 5; refine HG.out.mono ?_; rintro e w' ⟨rfl, hb1⟩) | (go_at_call 6; refine (awake_calls _).mono ?_; rintro e w' ⟨rfl, hb2⟩))
    go_ret
    exact ⟨rfl, below_trans hb1 hb2⟩
  have d2 : decide ((60 : Int) < (parts.length : Int)) = false := by simp; omega
  by_cases h100 : 100 < key.size
  case' pos =>
    have d3 : decide ((100 : Int) < (key.size : Int)) = true := by simp; omega
    go_enter Try.func3, Try.ntmps3
    go_wp2_with (first | (go_at_call 5; refine HG.out.mono ?_; rintro e w' ⟨rfl, hb1⟩) | (go_at_call 6; refine (awake_calls _).mono ?_; rintro e w' ⟨rfl, hb2⟩))
    go_ret
    exact ⟨rfl, below_trans hb1 hb2⟩
  have d3 : decide ((100 : Int) < (key.size : Int)) = false := by simp; omega
  have hsm := Sh.mk (small_of_great hgr.out (by omega))
  have HWF := Sh.mk (fun x hx => (⟨HW.out x hx, hsm.out x hx⟩ : _ ∧ _))
  go_enter Try.func3, Try.ntmps3
  go_wp2_with (first | (go_at_call 5; refine HG.out.mono ?_; rintro e wg ⟨rfl, hb1⟩) | (go_at_call 6; refine (awake_calls _).mono ?_; rintro e wa ⟨rfl, hb2⟩))
  have HB0 := Sh.mk (below_trans hb1 hb2)
  clear hb1 hb2 HG hgr HW
  have hwa : w.heap.size ≤ wa.heap.size := HB0.out.size
  have HL0 : Sh (LC w wa (wa.alloc (.cells #[.slice none 0 0, .slice none 0 0, .slice none 0 0, .int .i64 (-1), .int .i64 0, .int .i64 0, .int .i64 0, .int .i64 0, .int .i64 0, .string ⟨#[]⟩, .bool false, .string ⟨#[]⟩, .bool false, .string ⟨#[]⟩, .int .i64 0] 37)) wa.heap.size (.slice none 0 0) []) := ⟨⟨Blk.new wa _ _, Own.nil _ _ _ _ _, bl_alloc HB0.out _, by simp⟩⟩
  refine wp_gen (fun W => LC w wa W wa.heap.size (.slice none 0 0) []) HL0.out ?_
  clear HL0
  intro W0 hL0
  have HL0 := Sh.mk hL0
  clear hL0
  go_loopw [10] (fun i wr => ∃ (k : Nat) (vn : Value), k ≤ cells.length ∧ i = .int .i64 k ∧ Sh (LC w wa wr wa.heap.size vn ((cells.take k).foldl setC [])) ∧ Sh (∀ j (hj : j < cells.length), j < k → cells[j].key.size ≤ 100 ∧ cells[j].val.size ≤ 100)) (fun i _ => cells.length - (intOf i).toNat)
  case atStart => exact ⟨0, .slice none 0 0, Nat.zero_le _, rfl, HL0, ⟨fun j _ h => absurd h (Nat.not_lt_zero j)⟩⟩
  case round =>
    obtain ⟨k, vn, hk, rfl, HL, HS⟩ := hrel
    clear HL0 W0
    have HAM := Sh.mk (show ((cells.take k).foldl setC []).length ≤ 20 by have h1 := setC_len (cells.take k) []; have h2 := List.length_take_le k cells; simp only [List.length_nil] at h1; omega)
    by_cases hlt : k < cells.length
    · obtain ⟨x, hx⟩ : ∃ x, x = cells[k] := ⟨_, rfl⟩
      obtain ⟨b, off, hAc, hc⟩ := HRC.out k hlt
      subst hAc
      rw [← hx] at hc
      have HFS := Sh.mk (foldl_succ setC [] cells k hlt hx)
      have HX := Sh.mk hx
      have HC := Sh.mk (fun W (h : Below w.heap.size w W) (j : Nat) (v : Value) (hv : (encCell x)[j]? = some v) => below_cell h (hc j v hv))
      clear hc hx
      generalize (cells.take k).foldl setC [] = n at HL HAM HFS
      have q0 : wr.cell? ⟨b, off + k * 2, none⟩ = some (.string x.key) := HC.out wr HL.out.bl 0 _ rfl
      have q1 : wr.cell? ⟨b, off + k * 2 + 1, none⟩ = some (.string x.val) := HC.out wr HL.out.bl 1 _ rfl
      by_cases hx1 : 100 < x.key.size
      · have e1 : decide ((100 : Int) < (x.key.size : Int)) = true := by simp; omega
        go_wp2_with fail
        go_ret
        exact ⟨rfl, HL.out.bl⟩
      have e1 : decide ((100 : Int) < (x.key.size : Int)) = false := by simp; omega
      by_cases hx2 : 100 < x.val.size
      · have e2 : decide ((100 : Int) < (x.val.size : Int)) = true := by simp; omega
        go_wp2_with fail
        go_ret
        exact ⟨rfl, HL.out.bl⟩
      have e2 : decide ((100 : Int) < (x.val.size : Int)) = false := by simp; omega
      go_wp2_with fail
      refine wp_region_noPanic ?_
      refine wpN_begin 19 (fun W => LC w wa W wa.heap.size vn n) (by kernel_rfl) ?_
      have hS : (fun W => LC w wa W wa.heap.size vn n) (World.drew _) := (HL.out.below (bl_drew (Below.refl _ _)))
      refine wpN_take (i := 0) (v := ?_) rfl rfl (by kernel_rfl) (by kernel_rfl) (by kernel_rfl) (by kernel_rfl) (fun _ _ _ h => h) (Or.inl ⟨by kernel_rfl, ?hy⟩) hS ?_
      case hy =>
        intro W hW
        skip
        go_simp
        try with_reducible rfl
      (try simp only [Act.put]); (try simp only [List.setIfInBounds_toArray]); (try simp only [List.set_cons_succ]); (try simp only [List.set_cons_zero])
      refine wpN_take (i := 1) (v := ?_) rfl rfl (by kernel_rfl) (by kernel_rfl) (by kernel_rfl) (by kernel_rfl) (fun _ _ _ h => h) (Or.inl ⟨by kernel_rfl, ?hy⟩) hS ?_
      case hy =>
        intro W hW
        skip
        go_simp
        try with_reducible rfl
      (try simp only [Act.put]); (try simp only [List.setIfInBounds_toArray]); (try simp only [List.set_cons_succ]); (try simp only [List.set_cons_zero])
      refine wpN_take (i := 2) (v := ?_) rfl rfl (by kernel_rfl) (by kernel_rfl) (by kernel_rfl) (by kernel_rfl) (fun _ _ _ h => h) (Or.inl ⟨by kernel_rfl, ?hy⟩) hS ?_
      case hy =>
        intro W hW
        skip
        go_simp
        try with_reducible rfl
      (try simp only [Act.put]); (try simp only [List.setIfInBounds_toArray]); (try simp only [List.set_cons_succ]); (try simp only [List.set_cons_zero])
      refine wpN_take (i := 3) (v := ?_) rfl rfl (by kernel_rfl) (by kernel_rfl) (by kernel_rfl) (by kernel_rfl) (fun _ _ _ h => h) (Or.inl ⟨by kernel_rfl, ?hy⟩) hS ?_
      case hy =>
        intro W hW
        skip
        go_simp
        try with_reducible rfl
      (try simp only [Act.put]); (try simp only [List.setIfInBounds_toArray]); (try simp only [List.set_cons_succ]); (try simp only [List.set_cons_zero])
      refine wpN_take (i := 4) (v := ?_) rfl rfl (by kernel_rfl) (by kernel_rfl) (by kernel_rfl) (by kernel_rfl) (fun _ _ _ h => h) (Or.inl ⟨by kernel_rfl, ?hy⟩) hS ?_
      case hy =>
        intro W hW
        have z : W.cell? ⟨wa.heap.size, 0, none⟩ = some vn := hW.bp.cell 0
        go_simp
        try with_reducible rfl
      (try simp only [Act.put]); (try simp only [List.setIfInBounds_toArray]); (try simp only [List.set_cons_succ]); (try simp only [List.set_cons_zero])
      refine wpN_take (i := 5) (v := ?_) rfl rfl (by kernel_rfl) (by kernel_rfl) (by kernel_rfl) (by kernel_rfl) (fun _ _ _ h => h) (Or.inl ⟨by kernel_rfl, ?hy⟩) hS ?_
      case hy =>
        intro W hW
        skip
        go_simp
        try with_reducible rfl
      (try simp only [Act.put]); (try simp only [List.setIfInBounds_toArray]); (try simp only [List.set_cons_succ]); (try simp only [List.set_cons_zero])
      refine wpN_take (i := 6) (v := ?_) rfl rfl (by kernel_rfl) (by kernel_rfl) (by kernel_rfl) (by kernel_rfl) (fun _ _ _ h => h) (Or.inl ⟨by kernel_rfl, ?hy⟩) hS ?_
      case hy =>
        intro W hW
        skip
        go_simp
        try with_reducible rfl
      (try simp only [Act.put]); (try simp only [List.setIfInBounds_toArray]); (try simp only [List.set_cons_succ]); (try simp only [List.set_cons_zero])
      refine wpN_take (i := 7) (v := ?_) rfl rfl (by kernel_rfl) (by kernel_rfl) (by kernel_rfl) (by kernel_rfl) (fun _ _ _ h => h) (Or.inl ⟨by kernel_rfl, ?hy⟩) hS ?_
      case hy =>
        intro W hW
        skip
        go_simp
        try with_reducible rfl
      (try simp only [Act.put]); (try simp only [List.setIfInBounds_toArray]); (try simp only [List.set_cons_succ]); (try simp only [List.set_cons_zero])
      refine wpN_take (i := 8) (v := ?_) rfl rfl (by kernel_rfl) (by kernel_rfl) (by kernel_rfl) (by kernel_rfl) (fun _ _ _ h => h) (Or.inl ⟨by kernel_rfl, ?hy⟩) hS ?_
      case hy =>
        intro W hW
        skip
        go_simp
        try with_reducible rfl
      (try simp only [Act.put]); (try simp only [List.setIfInBounds_toArray]); (try simp only [List.set_cons_succ]); (try simp only [List.set_cons_zero])
      refine wpN_take (i := 9) (v := ?_) rfl rfl (by kernel_rfl) (by kernel_rfl) (by kernel_rfl) (by kernel_rfl) (fun _ _ _ h => h) (Or.inl ⟨by kernel_rfl, ?hy⟩) hS ?_
      case hy =>
        intro W hW
        have z : W.cell? ⟨b, off + k * 2, none⟩ = some (.string x.key) := HC.out W hW.bl 0 _ rfl
        go_simp
        try with_reducible rfl
      (try simp only [Act.put]); (try simp only [List.setIfInBounds_toArray]); (try simp only [List.set_cons_succ]); (try simp only [List.set_cons_zero])
      refine wpN_take (i := 10) (v := ?_) rfl rfl (by kernel_rfl) (by kernel_rfl) (by kernel_rfl) (by kernel_rfl) (fun _ _ _ h => h) (Or.inl ⟨by kernel_rfl, ?hy⟩) hS ?_
      case hy =>
        intro W hW
        skip
        go_simp
        try with_reducible rfl
      (try simp only [Act.put]); (try simp only [List.setIfInBounds_toArray]); (try simp only [List.set_cons_succ]); (try simp only [List.set_cons_zero])
      refine wpN_take (i := 11) (v := ?_) rfl rfl (by kernel_rfl) (by kernel_rfl) (by kernel_rfl) (by kernel_rfl) (fun _ _ _ h => h) (Or.inl ⟨by kernel_rfl, ?hy⟩) hS ?_
      case hy =>
        intro W hW
        skip
        go_simp
        try with_reducible rfl
      (try simp only [Act.put]); (try simp only [List.setIfInBounds_toArray]); (try simp only [List.set_cons_succ]); (try simp only [List.set_cons_zero])
      refine wpN_take (i := 12) (v := ?_) rfl rfl (by kernel_rfl) (by kernel_rfl) (by kernel_rfl) (by kernel_rfl) (fun _ _ _ h => h) (Or.inl ⟨by kernel_rfl, ?hy⟩) hS ?_
      case hy =>
        intro W hW
        skip
        go_simp
        try with_reducible rfl
      (try simp only [Act.put]); (try simp only [List.setIfInBounds_toArray]); (try simp only [List.set_cons_succ]); (try simp only [List.set_cons_zero])
      refine wpN_take (i := 13) (v := ?_) rfl rfl (by kernel_rfl) (by kernel_rfl) (by kernel_rfl) (by kernel_rfl) (fun _ _ _ h => h) (Or.inl ⟨by kernel_rfl, ?hy⟩) hS ?_
      case hy =>
        intro W hW
        skip
        go_simp
        try with_reducible rfl
      (try simp only [Act.put]); (try simp only [List.setIfInBounds_toArray]); (try simp only [List.set_cons_succ]); (try simp only [List.set_cons_zero])
      refine wpN_take (i := 14) (v := ?_) rfl rfl (by kernel_rfl) (by kernel_rfl) (by kernel_rfl) (by kernel_rfl) (fun _ _ _ h => h) (Or.inl ⟨by kernel_rfl, ?hy⟩) hS ?_
      case hy =>
        intro W hW
        have z : W.cell? ⟨b, off + k * 2 + 1, none⟩ = some (.string x.val) := HC.out W hW.bl 1 _ rfl
        go_simp
        try with_reducible rfl
      (try simp only [Act.put]); (try simp only [List.setIfInBounds_toArray]); (try simp only [List.set_cons_succ]); (try simp only [List.set_cons_zero])
      refine wpN_take (i := 15) (v := ?_) rfl rfl (by kernel_rfl) (by kernel_rfl) (by kernel_rfl) (by kernel_rfl) (fun _ _ _ h => h) (Or.inl ⟨by kernel_rfl, ?hy⟩) hS ?_
      case hy =>
        intro W hW
        skip
        go_simp
        try with_reducible rfl
      (try simp only [Act.put]); (try simp only [List.setIfInBounds_toArray]); (try simp only [List.set_cons_succ]); (try simp only [List.set_cons_zero])
      refine wpN_only (i := 16) rfl (by kernel_rfl) (fun K hK => ?_)
      go_simp
      go_at_call 7
      refine (set_own x.key ⟨true, x.val⟩ _ hS.n (by have := HAM.out; omega)).mono ?_
      rintro e w' ⟨v9, rfl, ho9, hb2⟩
      have HB2 := Sh.mk hb2
      obtain ⟨A9, d9, hv9, -, -, -⟩ := ho9.reads (fun _ => rfl)
      subst hv9
      have HO9 := Sh.mk ho9
      clear ho9
      refine goto hK (hS.below hb2) ?_
      clear hS hK K
      intro hS
      (try simp only [Act.put]); (try simp only [List.setIfInBounds_toArray]); (try simp only [List.set_cons_succ]); (try simp only [List.set_cons_zero])
      refine wpN_only (i := 17) rfl (by kernel_rfl) (fun K hK => ?_)
      go_simp
      refine goto hK hS ?_
      clear hS hK K
      intro hS
      (try simp only [Act.put]); (try simp only [List.setIfInBounds_toArray]); (try simp only [List.set_cons_succ]); (try simp only [List.set_cons_zero])
      refine wpN_only (i := 18) rfl (by kernel_rfl) (fun K hK => ?_)
      go_simp
      refine goto hK hS ?_
      clear hS hK K
      intro hS
      (try simp only [Act.put]); (try simp only [List.setIfInBounds_toArray]); (try simp only [List.set_cons_succ]); (try simp only [List.set_cons_zero])
      refine wpN_only (i := 19) rfl (by kernel_rfl) (fun K hK => ?_)
      have c0 : World.cell? _ ⟨wa.heap.size, 0, none⟩ = some vn := hS.bp.cell 0
      have f0 := hS.bp.frozen 0
      go_simp
      refine hK.out _ _ (.inl rfl) ?_
      clear hK K
      refine wpN_done (by kernel_rfl) ?_ _
      refine NoPanic.normal ?_
      have hL6 := LC.set hS HO9.out (by have := HL.out.sz; simp; omega) hwa
      have HL6 := Sh.mk hL6
      clear hL6 hS HB2 HO9 HL q0 q1
      go_wp2_with fail
      go_roundw
      case rel =>
        refine ⟨k + 1, .slice A9 (setF n x.key ⟨true, x.val⟩).length d9, by omega, by go_num, ⟨?_⟩, ⟨fun j hj hjk => ?_⟩⟩
        · rw [HFS.out]
          exact HL6.out
        · rcases Nat.lt_succ_iff_lt_or_eq.1 hjk with h1 | rfl
          · exact HS.out j hj h1
          · rw [← HX.out]; omega
      case measure => simp [intOf]; omega
    · obtain rfl : k = cells.length := by omega
      rw [List.take_length] at HL HAM
      go_wp2_with fail
      refine (New_calls Ac cc cells wr (HRC.out.below HL.out.bl) (fun x hx => by
        obtain ⟨j, hj, rfl⟩ := List.mem_iff_getElem.1 hx
        have := HS.out j hj hj
        unfold maxLen
        omega) (by omega)).mono ?_
      rintro e w5 ⟨pr, rfl, hpr, hrep, hb5⟩
      have HT : Sh (∃ FR FM s m, LT w w5 pr wa.heap.size 0 FR FM s m) := by
        have hl := HL.out.below hb5
        have hmod : IsMod w5 wa.heap.size (20 + 0 * 60) 0 (fun k => w.heap.size ≤ k ∧ k < wr.heap.size) ⟨cells.foldl setC [], [], [], zB⟩ := by
          refine ⟨vn, _, _, hl.bp, hl.n.lower (Nat.zero_le _), Own.nil _ _ _ _ _, Own.nil _ _ _ _ _, ?_, ?_, ?_, ?_, ?_, ?_, ?_⟩
          · have := HL.out.bp.lt; exact ⟨by omega, by omega⟩
          · intro k hk; have := HL.out.n.lt k hk; exact ⟨by omega, by omega⟩
          · intro k hk; simp [Value.ownBlock] at hk
          · intro k hk; simp [Value.ownBlock] at hk
          · have := HAM.out; simp only at *; omega
          · simp
          · simp
        refine ⟨_, _, _, _, ⟨(hrep.mono (N' := 20 + 0 * 60) (M' := 0) (F' := fun k => wr.heap.size ≤ k ∧ k < w5.heap.size) (by omega) (Nat.le_refl _) (fun _ h => h)), hmod, begin_like cells, ?_, ?_, hl.bl⟩⟩
        · intro k hk; exact ⟨by have := HL.out.bl.size; omega, hk.2, fun h => by omega⟩
        · intro k hk; exact ⟨hk.1, by have := hb5.size; omega⟩
      clear hrep hb5 HL HS HAM HRC
      generalize hpm : wa.heap.size = pm at HT ⊢
      clear hpm HB0 hwa
      go_wp2_with fail
      go_loopw [1, 12] (fun lv i wr => ∃ (t j c' : Nat) (A' : Option Addr) (l' : List BR), j ≤ t ∧ lv = .slice A' l'.length c' ∧ i = .int .i64 j ∧ l'.length ≤ c' ∧ c' ≤ 9223372036854775807 ∧ t ≤ 60 ∧ l'.length ≤ 60 ∧ Sh (t + l'.length = l.length ∧ l' = l.drop t) ∧ Sh (RowOf encBR 12 w A' l') ∧ Sh (∃ FR FM s m, LT w wr pr pm t FR FM s m)) (fun lv _ _ => match lv with | .slice _ n _ => n | _ => 0)
      case atStart => exact ⟨0, 0, cl, Al, l, Nat.le_refl _, rfl, rfl, hcl, by unfold maxLen at hcl2; omega, by omega, by omega, ⟨by omega, rfl⟩, HRL, HT⟩
      case round =>
        obtain ⟨t, j, c', A', l', hjt, rfl, rfl, hlc, hc', ht60, hl60, HLL, HRW, HT⟩ := hrel
        have HLW := Sh.mk (show ∀ x ∈ l', (Lit.int .i64 x.r.txn).wf = true ∧ x.r.key.size ≤ maxLen ∧ x.r.aft.s.size ≤ maxLen from fun x hx => HWF.out x (List.mem_of_mem_drop (HLL.out.2 ▸ hx)))
        by_cases hlt : 0 < l'.length
        · go_upto_if 105 with (fail)
          go_cut [13] (fun s13 wx => ∃ K : Nat, s13 = .int .i64 K ∧ 1 ≤ K ∧ K ≤ l'.length ∧ wr = wx)
          case first =>
            by_cases hj : j < parts.length
            · obtain ⟨pv, hpv⟩ : ∃ pv, pv = parts[j] := ⟨_, rfl⟩
              obtain ⟨b, off, hAp, hc⟩ := HRP.out j hj
              subst hAp
              have hpb := HPW.out pv (hpv ▸ List.getElem_mem hj)
              rw [← hpv] at hc
              have hbl := (show Below w.heap.size w wr by obtain ⟨_, _, _, _, h⟩ := HT.out; exact h.bl)
              have q0 : wr.cell? ⟨b, off + j, none⟩ = some (.int .u8 pv) := by simpa using below_cell hbl (hc 0 _ rfl)
              obtain ⟨hp0, hp1⟩ := hpb
              clear hpv hc hbl
              go_wp2_with fail
              go_meet
              exact ⟨(min (l'.length : Int) (1 + pv % 5)).toNat, by rw [show ((min (l'.length : Int) (1 + pv % 5)).toNat : Int) = min (l'.length : Int) (1 + pv % 5) by omega], by omega, by omega, rfl⟩
            · go_wp2_with fail
              go_meet
              exact ⟨l'.length, rfl, hlt, Nat.le_refl _, rfl⟩
          case rest =>
            obtain ⟨K, rfl, hK1, hK2, hwc⟩ := hcut
            subst hwc
            obtain ⟨wo, rfl⟩ : ∃ wo : World, wo = wr := ⟨_, rfl⟩
            obtain ⟨FR, FM, s, m, hT⟩ := HT.out
            have HTT := Sh.mk hT
            clear hT HT
            have hlk : (l'.take K).length = K := by rw [List.length_take]; omega
            have HLK := Sh.mk hlk
            clear hlk
            go_upto_block 4 with (fail)
            go_cut [14, 15] (fun s14 s15 wx => ∃ (n : Nat) (no : Int), n ≤ K ∧ s14 = .int .i64 n ∧ s15 = .int .i64 no ∧ Sh (∃ q FM' mb, q ≤ K ∧ modsF m (l'.take K) = (n, no, mb) ∧ LM w wx pr pm t q FR FM' s mb))
            case first =>
              go_wp2_with fail
              go_loopw [14, 15] (fun nv ov W => ∃ (n : Nat) (no : Int), n ≤ K ∧ nv = .int .i64 n ∧ ov = .int .i64 no ∧ Sh (∃ q FM' mb, q ≤ K ∧ n ≤ q ∧ (no = 0 → q = n) ∧ PartM m (l'.take K) n no mb ∧ LM w W pr pm t q FR FM' s mb)) (fun nv ov _ => (K - (intOf nv).toNat) * 2 + (if intOf ov = 0 then 1 else 0))
              case atStart => exact ⟨0, 0, Nat.zero_le _, rfl, rfl, ⟨0, FM, m, Nat.zero_le _, Nat.le_refl _, fun _ => rfl, PartM.begin _ _, HTT.out.rep, HTT.out.mod, HTT.out.fr, HTT.out.fm, HTT.out.bl⟩⟩
              case round =>
                obtain ⟨n, no, hn, rfl, rfl, HM⟩ := hrel
                by_cases hgo : n < K ∧ no = 0
                · obtain ⟨hnK, rfl⟩ := hgo
                  obtain ⟨q, FM', mb, hq, hnq, hqn, HP, hM⟩ := HM.out
                  obtain rfl := hqn rfl
                  clear hqn hnq HM
                  have HP := Sh.mk HP
                  have HM := Sh.mk hM
                  obtain ⟨x, hx⟩ : ∃ x, x = l'[q]'(by omega) := ⟨_, rfl⟩
                  obtain ⟨b, off, hA1, hc⟩ := HRW.out q (by omega)
                  subst hA1
                  rw [← hx] at hc
                  have HXK := Sh.mk (show x = (l'.take K)[q]'(by rw [HLK.out]; exact hnK) by rw [hx, List.getElem_take])
                  have HC := Sh.mk (fun (j : Nat) (v : Value) (hv : (encBR x)[j]? = some v) => below_cell hM.bl (hc j v hv))
                  clear hc hx hM
                  have q0 : wr.cell? ⟨b, off + q * 12, none⟩ = some (.int .i64 x.stream) := HC.out 0 _ rfl
                  have q1 : wr.cell? ⟨b, off + q * 12 + 1, none⟩ = some (.int .i64 x.r.kind) := HC.out 1 _ rfl
                  have q2 : wr.cell? ⟨b, off + q * 12 + 2, none⟩ = some (.int .i64 x.r.gsn) := HC.out 2 _ rfl
                  have q3 : wr.cell? ⟨b, off + q * 12 + 3, none⟩ = some (.int .i64 x.r.txn) := HC.out 3 _ rfl
                  have q4 : wr.cell? ⟨b, off + q * 12 + 4, none⟩ = some (.int .i64 x.r.prev) := HC.out 4 _ rfl
                  have q5 : wr.cell? ⟨b, off + q * 12 + 5, none⟩ = some (.int .i64 x.r.page) := HC.out 5 _ rfl
                  have q6 : wr.cell? ⟨b, off + q * 12 + 6, none⟩ = some (.string x.r.key) := HC.out 6 _ rfl
                  have q7 : wr.cell? ⟨b, off + q * 12 + 7, none⟩ = some (.bool x.r.bef.has) := HC.out 7 _ rfl
                  have q8 : wr.cell? ⟨b, off + q * 12 + 8, none⟩ = some (.string x.r.bef.s) := HC.out 8 _ rfl
                  have q9 : wr.cell? ⟨b, off + q * 12 + 9, none⟩ = some (.bool x.r.aft.has) := HC.out 9 _ rfl
                  have q10 : wr.cell? ⟨b, off + q * 12 + 10, none⟩ = some (.string x.r.aft.s) := HC.out 10 _ rfl
                  have q11 : wr.cell? ⟨b, off + q * 12 + 11, none⟩ = some (.int .i64 x.r.undo) := HC.out 11 _ rfl
                  have hql : q < l'.length := by omega
                  go_wp2_with fail
                  refine (mtake_calls pm _ _ FM' mb x wr HM.out.mod (by omega) (by omega)).mono ?_
                  rintro e w4 ⟨rfl, hmq, hc4⟩
                  unfold MTQ at hmq
                  have HQ := Sh.mk (HM.out.step (by have := HLL.out.1; omega) hmq hc4)
                  clear hmq hc4 q0 q1 q2 q3 q4 q5 q6 q7 q8 q9 q10 q11
                  generalize hno : modNo mb x = nn at HQ ⊢
                  have HNO := Sh.mk hno
                  clear hno
                  by_cases h0 : nn = 0
                  · subst h0
                    go_wp2_with fail
                    go_roundw
                    case rel => exact ⟨q + 1, 0, by omega, by go_num, rfl, ⟨q + 1, _, _, by omega, Nat.le_refl _, fun _ => rfl, HP.out.yes (by rw [HLK.out]; exact hnK) HXK.out HNO.out, by have h := HQ.out; first | exact h | (rw [if_pos rfl] at h; exact h)⟩⟩
                    case measure => simp [intOf]; omega
                  · have hz : (nn == 0) = false := by simp [h0]
                    have HZ := Sh.mk h0
                    clear h0
                    go_wp2_with fail
                    go_roundw
                    case rel => exact ⟨q, nn, by omega, rfl, rfl, ⟨q + 1, _, mb, by omega, by omega, fun h => absurd h HZ.out, by have h := HP.out.no (by rw [HLK.out]; exact hnK) HXK.out (by rw [HNO.out]; exact HZ.out); rw [HNO.out] at h; exact h, by have h := HQ.out; first | exact h | (rw [if_neg HZ.out] at h; exact h)⟩⟩
                    case measure => simp [intOf, HZ.out]
                · obtain ⟨q, FM', mb, hq, hnq, hqn, hP, hM⟩ := HM.out
                  clear HM
                  have hD := hP.done (fun h => by rw [HLK.out]; by_cases h1 : n < K; exact absurd ⟨h1, h⟩ hgo; omega)
                  have HD := Sh.mk hD
                  have HM := Sh.mk hM
                  clear hP hD hM hqn
                  by_cases h1 : n < K
                  · have hz : (no == 0) = false := by simp; intro h; exact hgo ⟨h1, h⟩
                    clear hgo
                    go_wp2_with fail
                    go_meet
                    exact ⟨n, no, hn, rfl, rfl, ⟨q, FM', mb, hq, HD.out, HM.out⟩⟩
                  · clear hgo
                    go_wp2_with fail
                    go_meet
                    exact ⟨n, no, hn, rfl, rfl, ⟨q, FM', mb, hq, HD.out, HM.out⟩⟩
            case rest =>
              obtain ⟨n, no, hn, rfl, rfl, HM⟩ := hcut
              obtain ⟨q, FM', mb, hq, hD, hM⟩ := HM.out
              clear HM
              obtain ⟨e1, e2, e3⟩ := mods_like (s := s) (m := m) (l'.take K) s m HTT.out.like
              rw [hD] at e1 e2 e3
              dsimp only at e1 e2 e3
              have HE := Sh.mk (And.intro e1.symm (And.intro e2.symm e3))
              have HM := Sh.mk hM
              clear hD e1 e2 e3 hM
              have hKc : K ≤ c' := by omega
              obtain ⟨A2, hA2⟩ : ∃ A2, A2 = (if c' = K then A' else A'.map (·.add (K * 12))) := ⟨_, rfl⟩
              have hsl : ∀ W, (Instr.sliceAt 23 (.slice A' l'.length c') (some (.int .i64 (K : Int))) none none).run Try.prog W = .ok (.slice A2 (l'.length - K) (c' - K)) W := fun W => by rw [hA2]; go_simp
              have HA2 := Sh.mk hA2
              clear hA2
              obtain ⟨wm, hwr⟩ : ∃ wm : World, wm = wc := ⟨_, rfl⟩
              subst hwr
              go_wp2_with fail
              have hof := Of_calls A' c' (l'.take K) wm ((HRW.out.below HM.out.bl).take K) (by rw [HLK.out]; omega)
              rw [HLK.out] at hof
              have HOF := Sh.mk hof
              clear hof
              refine HOF.out.mono ?_
              clear HOF
              rintro e w4 ⟨vo4, rfl, ho4, hb4⟩
              obtain ⟨A1, c1, hv, -, -, hrow⟩ := ho4.reads (fun _ => rfl)
              subst hv
              have hA : ∀ a, A1 = some a → ¬ FR a.block := fun a ha hf => by
                have h1 := (ho4.lt a.block (by rw [ha]; rfl)).1
                have h2 := (HM.out.fr _ hf).2.1
                omega
              have htk := Take_calls pr _ _ FR s A1 c1 (l'.take K) w4 (HM.out.rep.chg (Chg.of_below (F := fun _ => False) hb4) (fun _ _ h => h)) hrow hA (fun x hx => HLW.out x (List.mem_of_mem_take hx))
                (by rw [HLK.out]; have h1 := HLL.out.1; have h2 : K * (t + K) ≤ 60 * 60 := Nat.mul_le_mul (by omega) (by omega); unfold maxLen; omega) (by rw [HLK.out]; have := HLL.out.1; omega)
              rw [HLK.out, HE.out.1, HE.out.2.1] at htk
              have HTK := Sh.mk htk
              have HB4 := Sh.mk hb4
              have HKK := Sh.mk (show K * (t + K) ≤ K * 60 from Nat.mul_le_mul_left K (by have := HLL.out.1; omega))
              clear htk hA hrow ho4 hb4
              rw [HLK.out]
              go_wp2_with fail
              refine HTK.out.mono ?_
              clear HTK
              rintro e w5 ⟨rfl, hrep, hc5⟩
              have HV5 : Sh (LT w w5 pr pm (t + K) (fun k => (FR k ∨ w4.heap.size ≤ k) ∧ k < w5.heap.size) (fun k => FM' k ∧ k < w5.heap.size) (takesF s (l'.take K)).2.2 mb) := by
                have hb4 := HB4.out
                have hs4 := hb4.size
                have hs5 := hc5.size
                have hm5 := (HM.out.mod.chg (Chg.of_below (F := fun _ => False) hb4) (fun _ _ h => h)).chg hc5 (fun k h1 h2 => (HM.out.fr k h2).2.2 h1)
                refine ⟨⟨hrep.tight.mono (by have := HKK.out; omega) (by omega) (fun _ h => h), hm5.tight.mono (by omega) (by omega) (fun _ h => h), HE.out.2.2, fun k hk => ⟨?_, hk.2, fun hf => ?_⟩, fun k hk => ⟨(HM.out.fm k hk.1).1, hk.2⟩, ?_⟩⟩
                · rcases hk.1 with h | h
                  · exact (HM.out.fr k h).1
                  · have := HM.out.bl.size; omega
                · rcases hk.1 with h | h
                  · exact (HM.out.fr k h).2.2 hf.1
                  · have := (HM.out.fm k hf.1).2; omega
                · exact ((Chg.of_below (F := fun k => w.heap.size ≤ k) (below_then HM.out.bl HM.out.bl.size hb4)).trans hc5 (fun k _ h => (HM.out.fr k h).1)).below (fun k hk e => by omega)
              generalize (takesF s (l'.take K)).2.2 = s5 at HV5
              clear hrep hc5 HB4 HE HM HTT HKK
              obtain ⟨F5, hF5⟩ : ∃ F5 : Nat → Prop, F5 = (fun k => (FR k ∨ w4.heap.size ≤ k) ∧ k < w5.heap.size) := ⟨_, rfl⟩
              obtain ⟨G5, hG5⟩ : ∃ G5 : Nat → Prop, G5 = (fun k => FM' k ∧ k < w5.heap.size) := ⟨_, rfl⟩
              rw [← hF5, ← hG5] at HV5
              clear hF5 hG5
              obtain ⟨vn, vo, vk, hmd⟩ := HV5.out.mod
              obtain ⟨An, dn, hvn, -, -, -⟩ := hmd.now.reads (fun _ => rfl)
              obtain ⟨Ao, do_, hvo, -, -, -⟩ := hmd.opn.reads (fun _ => rfl)
              subst hvn hvo
              have HMD := Sh.mk hmd
              clear hmd
              have htK : t + K ≤ 60 := by have := HLL.out.1; omega
              have hnl : mb.now.length ≤ 9223372036854775807 := by have := HMD.out.ln; omega
              have hol : mb.opn.length ≤ 9223372036854775807 := by have := HMD.out.lo; omega
              have HV : Sh (LV w (w5.alloc (.cells #[.bool false, .string ⟨#[]⟩] 29)) w5.heap.size pr pm (t + K) F5 G5 s5 mb (.slice An mb.now.length dn) (.slice Ao mb.opn.length do_) vk ⟨false, ⟨#[]⟩⟩) := ⟨by
                have h := HV5.out
                have hb := bl_alloc (Below.refl w5.heap.size w5) (.cells #[.bool false, .string ⟨#[]⟩] 29)
                exact ⟨h.rep.chg (Chg.of_below (F := fun _ => False) hb) (fun _ _ h => h), HMD.out.chg (Chg.of_below (F := fun _ => False) hb) (fun _ _ h => h), h.like, h.fr, h.fm, below_then h.bl h.bl.size hb, Blk.new w5 _ _, h.bl.size⟩⟩
              have HNO := Sh.mk (And.intro HMD.out.ln HMD.out.lo)
              clear HV5 HMD
              go_wp2_with fail
              refine wp_gen (fun W => LV w W w5.heap.size pr pm (t + K) F5 G5 s5 mb (.slice An mb.now.length dn) (.slice Ao mb.opn.length do_) vk ⟨false, ⟨#[]⟩⟩) HV.out ?_
              clear HV
              intro W6 hV
              have HV := Sh.mk hV
              clear hV
              generalize hbv : w5.heap.size = bv at HV ⊢
              clear hbv
              go_loopw [19] (fun jv W => ∃ jj : Nat, jj ≤ mb.now.length ∧ jv = .int .i64 jj ∧ Sh (LV w W bv pr pm (t + K) F5 G5 s5 mb (.slice An mb.now.length dn) (.slice Ao mb.opn.length do_) vk ((mb.now.take jj).foldl (lastV key) ⟨false, ⟨#[]⟩⟩))) (fun jv _ => mb.now.length - (intOf jv).toNat)
              case atStart => exact ⟨0, Nat.zero_le _, rfl, HV⟩
              case round =>
                clear HV W6
                obtain ⟨jj, hjj, rfl, HV⟩ := hrel
                have c0 := HV.out.c0
                by_cases hlt4 : jj < mb.now.length
                · obtain ⟨x, hx⟩ : ∃ x, x = mb.now[jj] := ⟨_, rfl⟩
                  obtain ⟨b, off, hAn, hc⟩ := (own_row HV.out.mod.now (fun _ => rfl)).1 jj hlt4
                  subst hAn
                  rw [← hx] at hc
                  have HFS := Sh.mk (foldl_succ (lastV key) ⟨false, ⟨#[]⟩⟩ mb.now jj hlt4 hx)
                  have q0 : wr.cell? ⟨b, off + jj * 2, none⟩ = some (.string x.key) := hc 0 _ rfl
                  have q1 : wr.cell? ⟨b, off + jj * 2 + 1, none⟩ = some (.string x.val) := hc 1 _ rfl
                  clear hx hc
                  generalize (mb.now.take jj).foldl (lastV key) ⟨false, ⟨#[]⟩⟩ = v at HV HFS
                  have b0 := HV.out.b0
                  have b1 := HV.out.b1
                  have f0 := HV.out.vb.frozen 0
                  have f1 := HV.out.vb.frozen 1
                  by_cases hk : x.key.toList = key.toList
                  · have z1 : (x.key.toList == key.toList) = true := by simp [hk]
                    have HK := Sh.mk z1
                    clear hk
                    go_wp2_with fail
                    go_roundw
                    case rel =>
                      refine ⟨jj + 1, by omega, by go_num, ⟨?_⟩⟩
                      rw [HFS.out, show lastV key v x = ⟨true, x.val⟩ by unfold lastV; rw [if_pos HK.out]]
                      exact HV.out.set ⟨true, x.val⟩
                    case measure => simp [intOf]; omega
                  · have z1 : (x.key.toList == key.toList) = false := by simp [hk]
                    have HK := Sh.mk z1
                    clear hk
                    go_wp2_with fail
                    go_roundw
                    case rel =>
                      refine ⟨jj + 1, by omega, by go_num, ⟨?_⟩⟩
                      rw [HFS.out, show lastV key v x = v by unfold lastV; rw [if_neg (by rw [HK.out]; decide)]]
                      exact HV.out
                    case measure => simp [intOf]; omega
                · obtain rfl : jj = mb.now.length := by omega
                  rw [List.take_length, lastV_like ⟨HV.out.like.upn, HV.out.like.now⟩ key] at HV
                  have hpl := Place_calls pr _ _ F5 s5 wr HV.out.rep
                  rw [← HV.out.like.gsn, ← HV.out.like.str] at hpl
                  have HPL := Sh.mk hpl
                  clear hpl
                  go_wp2_with fail
                  refine HPL.out.mono ?_
                  clear HPL
                  rintro e w7 ⟨rfl, hb7⟩
                  replace HV := Sh.mk (HV.out.below hb7)
                  clear hb7 c0
                  have hne : ∀ W : World, (binOp .neq 29 (.agg #[.bool (s5.now key).isSome, .string ((s5.now key).getD ⟨#[]⟩)]) (.agg #[.bool (s5.now key).isSome, .string ((s5.now key).getD ⟨#[]⟩)])).run Try.prog W = .ok (.bool false) W := fun W => by
                    have h := neV ⟨(s5.now key).isSome, (s5.now key).getD ⟨#[]⟩⟩ ⟨(s5.now key).isSome, (s5.now key).getD ⟨#[]⟩⟩ W
                    rw [decide_eq_true rfl] at h
                    exact h
                  go_wp2_with fail
                  refine wp_region_noPanic ?_
                  refine wpN_begin 99 (fun W => LV w W bv pr pm (t + K) F5 G5 s5 mb (.slice An mb.now.length dn) (.slice Ao mb.opn.length do_) vk ⟨(s5.now key).isSome, (s5.now key).getD ⟨#[]⟩⟩) (by kernel_rfl) ?_
                  have hS : (fun W => LV w W bv pr pm (t + K) F5 G5 s5 mb (.slice An mb.now.length dn) (.slice Ao mb.opn.length do_) vk ⟨(s5.now key).isSome, (s5.now key).getD ⟨#[]⟩⟩) (World.drew _) := (HV.out.below (bl_drew (Below.refl _ _)))
                  refine wpN_take (i := 0) (v := ?_) rfl rfl (by kernel_rfl) (by kernel_rfl) (by kernel_rfl) (by kernel_rfl) (fun _ _ _ h => h) (Or.inl ⟨by kernel_rfl, ?hy⟩) hS ?_
                  case hy =>
                    intro W hW
                    skip
                    go_simp
                    try with_reducible rfl
                  (try simp only [Act.put]); (try simp only [List.setIfInBounds_toArray]); (try simp only [List.set_cons_succ]); (try simp only [List.set_cons_zero])
                  refine wpN_take (i := 2) (v := ?_) rfl rfl (by kernel_rfl) (by kernel_rfl) (by kernel_rfl) (by kernel_rfl) (fun _ _ _ h => h) (Or.inl ⟨by kernel_rfl, ?hy⟩) hS ?_
                  case hy =>
                    intro W hW
                    skip
                    go_simp
                    try with_reducible rfl
                  (try simp only [Act.put]); (try simp only [List.setIfInBounds_toArray]); (try simp only [List.set_cons_succ]); (try simp only [List.set_cons_zero])
                  refine wpN_take (i := 3) (v := ?_) rfl rfl (by kernel_rfl) (by kernel_rfl) (by kernel_rfl) (by kernel_rfl) (fun _ _ _ h => h) (Or.inl ⟨by kernel_rfl, ?hy⟩) hS ?_
                  case hy =>
                    intro W hW
                    skip
                    go_simp
                    try with_reducible rfl
                  (try simp only [Act.put]); (try simp only [List.setIfInBounds_toArray]); (try simp only [List.set_cons_succ]); (try simp only [List.set_cons_zero])
                  refine wpN_take (i := 4) (v := ?_) rfl rfl (by kernel_rfl) (by kernel_rfl) (by kernel_rfl) (by kernel_rfl) (fun _ _ _ h => h) (Or.inl ⟨by kernel_rfl, ?hy⟩) hS ?_
                  case hy =>
                    intro W hW
                    skip
                    go_simp
                    try with_reducible rfl
                  (try simp only [Act.put]); (try simp only [List.setIfInBounds_toArray]); (try simp only [List.set_cons_succ]); (try simp only [List.set_cons_zero])
                  refine wpN_take (i := 5) (v := ?_) rfl rfl (by kernel_rfl) (by kernel_rfl) (by kernel_rfl) (by kernel_rfl) (fun _ _ _ h => h) (Or.inl ⟨by kernel_rfl, ?hy⟩) hS ?_
                  case hy =>
                    intro W hW
                    have y := hW.c0
                    go_simp
                    try with_reducible rfl
                  (try simp only [Act.put]); (try simp only [List.setIfInBounds_toArray]); (try simp only [List.set_cons_succ]); (try simp only [List.set_cons_zero])
                  refine wpN_only (i := 1) rfl (by kernel_rfl) (fun K hK => ?_)
                  go_simp
                  go_at_call 14
                  refine (Cells_calls pr _ _ F5 s5 _ hS.rep (by omega)).mono ?_
                  rintro e w' ⟨v1, ks1, rfl, hk1, hn1, ho1, hb2⟩
                  rw [keys_like ⟨hS.like.upn, hS.like.now⟩ hk1] at ho1
                  obtain ⟨A3, d3, hv3, -, -, -⟩ := ho1.reads (fun _ => rfl)
                  subst hv3
                  have HO1 := Sh.mk ho1
                  clear ho1 hk1 hn1
                  refine goto hK (hS.below hb2) ?_
                  clear hS hK K
                  intro hS
                  (try simp only [Act.put]); (try simp only [List.setIfInBounds_toArray]); (try simp only [List.set_cons_succ]); (try simp only [List.set_cons_zero])
                  refine wpN_only (i := 6) rfl (by kernel_rfl) (fun K hK => ?_)
                  go_simp
                  go_at_call 13
                  refine (cells_calls A3 An d3 dn mb.now mb.now _ (own_row HO1.out (fun _ => rfl)).1 (own_row hS.mod.now (fun _ => rfl)).1 hnl hnl).mono ?_
                  rw [show decide (mb.now = mb.now) = true from by simp]
                  rintro e w' ⟨rfl, hb3⟩
                  refine goto hK (hS.below hb3) ?_
                  clear hS hK K
                  intro hS
                  (try simp only [Act.put]); (try simp only [List.setIfInBounds_toArray]); (try simp only [List.set_cons_succ]); (try simp only [List.set_cons_zero])
                  refine wpN_only (i := 7) rfl (by kernel_rfl) (fun K hK => ?_)
                  go_simp
                  refine goto hK hS ?_
                  clear hS hK K
                  intro hS
                  (try simp only [Act.put]); (try simp only [List.setIfInBounds_toArray]); (try simp only [List.set_cons_succ]); (try simp only [List.set_cons_zero])
                  refine wpN_only (i := 8) rfl (by kernel_rfl) (fun K hK => ?_)
                  go_simp
                  refine goto hK hS ?_
                  clear hS hK K
                  intro hS
                  (try simp only [Act.put]); (try simp only [List.setIfInBounds_toArray]); (try simp only [List.set_cons_succ]); (try simp only [List.set_cons_zero])
                  refine wpN_take (i := 9) (v := ?_) rfl rfl (by kernel_rfl) (by kernel_rfl) (by kernel_rfl) (by kernel_rfl) (fun _ _ _ h => h) (Or.inl ⟨by kernel_rfl, ?hy⟩) hS ?_
                  case hy =>
                    intro W hW
                    skip
                    go_simp
                    try with_reducible rfl
                  (try simp only [Act.put]); (try simp only [List.setIfInBounds_toArray]); (try simp only [List.set_cons_succ]); (try simp only [List.set_cons_zero])
                  refine wpN_take (i := 11) (v := ?_) rfl rfl (by kernel_rfl) (by kernel_rfl) (by kernel_rfl) (by kernel_rfl) (fun _ _ _ h => h) (Or.inl ⟨by kernel_rfl, ?hy⟩) hS ?_
                  case hy =>
                    intro W hW
                    skip
                    go_simp
                    try with_reducible rfl
                  (try simp only [Act.put]); (try simp only [List.setIfInBounds_toArray]); (try simp only [List.set_cons_succ]); (try simp only [List.set_cons_zero])
                  refine wpN_take (i := 12) (v := ?_) rfl rfl (by kernel_rfl) (by kernel_rfl) (by kernel_rfl) (by kernel_rfl) (fun _ _ _ h => h) (Or.inl ⟨by kernel_rfl, ?hy⟩) hS ?_
                  case hy =>
                    intro W hW
                    skip
                    go_simp
                    try with_reducible rfl
                  (try simp only [Act.put]); (try simp only [List.setIfInBounds_toArray]); (try simp only [List.set_cons_succ]); (try simp only [List.set_cons_zero])
                  refine wpN_take (i := 13) (v := ?_) rfl rfl (by kernel_rfl) (by kernel_rfl) (by kernel_rfl) (by kernel_rfl) (fun _ _ _ h => h) (Or.inl ⟨by kernel_rfl, ?hy⟩) hS ?_
                  case hy =>
                    intro W hW
                    skip
                    go_simp
                    try with_reducible rfl
                  (try simp only [Act.put]); (try simp only [List.setIfInBounds_toArray]); (try simp only [List.set_cons_succ]); (try simp only [List.set_cons_zero])
                  refine wpN_take (i := 14) (v := ?_) rfl rfl (by kernel_rfl) (by kernel_rfl) (by kernel_rfl) (by kernel_rfl) (fun _ _ _ h => h) (Or.inl ⟨by kernel_rfl, ?hy⟩) hS ?_
                  case hy =>
                    intro W hW
                    have y := hW.c1
                    go_simp
                    try with_reducible rfl
                  (try simp only [Act.put]); (try simp only [List.setIfInBounds_toArray]); (try simp only [List.set_cons_succ]); (try simp only [List.set_cons_zero])
                  refine wpN_only (i := 10) rfl (by kernel_rfl) (fun K hK => ?_)
                  go_simp
                  go_at_call 16
                  refine (Open_calls pr _ _ F5 s5 _ hS.rep (by omega)).mono ?_
                  rintro e w' ⟨v4, ks4, rfl, hk4, hn4, ho4, hb4⟩
                  rw [opens_like hS.like hk4] at ho4
                  obtain ⟨A5, d5, hv5, -, -, -⟩ := ho4.reads (fun _ => rfl)
                  subst hv5
                  have HO4 := Sh.mk ho4
                  clear ho4 hk4 hn4
                  refine goto hK (hS.below hb4) ?_
                  clear hS hK K
                  intro hS
                  (try simp only [Act.put]); (try simp only [List.setIfInBounds_toArray]); (try simp only [List.set_cons_succ]); (try simp only [List.set_cons_zero])
                  refine wpN_only (i := 15) rfl (by kernel_rfl) (fun K hK => ?_)
                  go_simp
                  go_at_call 15
                  refine (same_calls A5 Ao d5 do_ mb.opn mb.opn _ (own_row HO4.out (fun _ => rfl)).1 (own_row hS.mod.opn (fun _ => rfl)).1 hol hol).mono ?_
                  rw [show decide (mb.opn = mb.opn) = true from by simp]
                  rintro e w' ⟨rfl, hb5⟩
                  refine goto hK (hS.below hb5) ?_
                  clear hS hK K
                  intro hS
                  (try simp only [Act.put]); (try simp only [List.setIfInBounds_toArray]); (try simp only [List.set_cons_succ]); (try simp only [List.set_cons_zero])
                  refine wpN_only (i := 16) rfl (by kernel_rfl) (fun K hK => ?_)
                  go_simp
                  refine goto hK hS ?_
                  clear hS hK K
                  intro hS
                  (try simp only [Act.put]); (try simp only [List.setIfInBounds_toArray]); (try simp only [List.set_cons_succ]); (try simp only [List.set_cons_zero])
                  refine wpN_only (i := 17) rfl (by kernel_rfl) (fun K hK => ?_)
                  go_simp
                  refine goto hK hS ?_
                  clear hS hK K
                  intro hS
                  (try simp only [Act.put]); (try simp only [List.setIfInBounds_toArray]); (try simp only [List.set_cons_succ]); (try simp only [List.set_cons_zero])
                  refine wpN_only (i := 18) rfl (by kernel_rfl) (fun K hK => ?_)
                  go_simp
                  refine goto hK hS ?_
                  clear hS hK K
                  intro hS
                  (try simp only [Act.put]); (try simp only [List.setIfInBounds_toArray]); (try simp only [List.set_cons_succ]); (try simp only [List.set_cons_zero])
                  refine wpN_take (i := 19) (v := ?_) rfl rfl (by kernel_rfl) (by kernel_rfl) (by kernel_rfl) (by kernel_rfl) (fun _ _ _ h => h) (Or.inl ⟨by kernel_rfl, ?hy⟩) hS ?_
                  case hy =>
                    intro W hW
                    skip
                    go_simp
                    try with_reducible rfl
                  (try simp only [Act.put]); (try simp only [List.setIfInBounds_toArray]); (try simp only [List.set_cons_succ]); (try simp only [List.set_cons_zero])
                  refine wpN_take (i := 20) (v := ?_) rfl rfl (by kernel_rfl) (by kernel_rfl) (by kernel_rfl) (by kernel_rfl) (fun _ _ _ h => h) (Or.inl ⟨by kernel_rfl, ?hy⟩) hS ?_
                  case hy =>
                    intro W hW
                    skip
                    go_simp
                    try with_reducible rfl
                  (try simp only [Act.put]); (try simp only [List.setIfInBounds_toArray]); (try simp only [List.set_cons_succ]); (try simp only [List.set_cons_zero])
                  refine wpN_take (i := 22) (v := ?_) rfl rfl (by kernel_rfl) (by kernel_rfl) (by kernel_rfl) (by kernel_rfl) (fun _ _ _ h => h) (Or.inl ⟨by kernel_rfl, ?hy⟩) hS ?_
                  case hy =>
                    intro W hW
                    have y := hW.b0; have y1 := hW.b1
                    go_simp
                    try with_reducible rfl
                  (try simp only [Act.put]); (try simp only [List.setIfInBounds_toArray]); (try simp only [List.set_cons_succ]); (try simp only [List.set_cons_zero])
                  refine wpN_only (i := 21) rfl (by kernel_rfl) (fun K hK => ?_)
                  go_simp
                  go_at_call 17
                  refine (Get_calls pr _ _ F5 s5 key _ hS.rep hks).mono ?_
                  rintro e w' ⟨rfl, hb6⟩
                  refine goto hK (hS.below hb6) ?_
                  clear hS hK K
                  intro hS
                  (try simp only [Act.put]); (try simp only [List.setIfInBounds_toArray]); (try simp only [List.set_cons_succ]); (try simp only [List.set_cons_zero])
                  refine wpN_only (i := 23) rfl (by kernel_rfl) (fun K hK => ?_)
                  go_simp
                  refine goto hK hS ?_
                  clear hS hK K
                  intro hS
                  (try simp only [Act.put]); (try simp only [List.setIfInBounds_toArray]); (try simp only [List.set_cons_succ]); (try simp only [List.set_cons_zero])
                  refine wpN_only (i := 24) rfl (by kernel_rfl) (fun K hK => ?_)
                  go_simp
                  refine goto hK hS ?_
                  clear hS hK K
                  intro hS
                  (try simp only [Act.put]); (try simp only [List.setIfInBounds_toArray]); (try simp only [List.set_cons_succ]); (try simp only [List.set_cons_zero])
                  refine wpN_only (i := 25) rfl (by kernel_rfl) (fun K hK => ?_)
                  go_simp
                  refine goto hK hS ?_
                  clear hS hK K
                  intro hS
                  (try simp only [Act.put]); (try simp only [List.setIfInBounds_toArray]); (try simp only [List.set_cons_succ]); (try simp only [List.set_cons_zero])
                  refine wpN_take (i := 26) (v := ?_) rfl rfl (by kernel_rfl) (by kernel_rfl) (by kernel_rfl) (by kernel_rfl) (fun _ _ _ h => h) (Or.inl ⟨by kernel_rfl, ?hy⟩) hS ?_
                  case hy =>
                    intro W hW
                    skip
                    go_simp
                    try with_reducible rfl
                  (try simp only [Act.put]); (try simp only [List.setIfInBounds_toArray]); (try simp only [List.set_cons_succ]); (try simp only [List.set_cons_zero])
                  refine wpN_take (i := 27) (v := ?_) rfl rfl (by kernel_rfl) (by kernel_rfl) (by kernel_rfl) (by kernel_rfl) (fun _ _ _ h => h) (Or.inl ⟨by kernel_rfl, ?hy⟩) hS ?_
                  case hy =>
                    intro W hW
                    skip
                    go_simp
                    try with_reducible rfl
                  (try simp only [Act.put]); (try simp only [List.setIfInBounds_toArray]); (try simp only [List.set_cons_succ]); (try simp only [List.set_cons_zero])
                  refine wpN_take (i := 28) (v := ?_) rfl rfl (by kernel_rfl) (by kernel_rfl) (by kernel_rfl) (by kernel_rfl) (fun _ _ _ h => h) (Or.inl ⟨by kernel_rfl, ?hy⟩) hS ?_
                  case hy =>
                    intro W hW
                    skip
                    go_simp
                    try with_reducible rfl
                  (try simp only [Act.put]); (try simp only [List.setIfInBounds_toArray]); (try simp only [List.set_cons_succ]); (try simp only [List.set_cons_zero])
                  refine wpN_take (i := 29) (v := ?_) rfl rfl (by kernel_rfl) (by kernel_rfl) (by kernel_rfl) (by kernel_rfl) (fun _ _ _ h => h) (Or.inl ⟨by kernel_rfl, ?hy⟩) hS ?_
                  case hy =>
                    intro W hW
                    skip
                    go_simp
                    try with_reducible rfl
                  (try simp only [Act.put]); (try simp only [List.setIfInBounds_toArray]); (try simp only [List.set_cons_succ]); (try simp only [List.set_cons_zero])
                  refine wpN_take (i := 30) (v := ?_) rfl rfl (by kernel_rfl) (by kernel_rfl) (by kernel_rfl) (by kernel_rfl) (fun _ _ _ h => h) (Or.inl ⟨by kernel_rfl, ?hy⟩) hS ?_
                  case hy =>
                    intro W hW
                    skip
                    go_simp
                    try with_reducible rfl
                  (try simp only [Act.put]); (try simp only [List.setIfInBounds_toArray]); (try simp only [List.set_cons_succ]); (try simp only [List.set_cons_zero])
                  refine wpN_take (i := 31) (v := ?_) rfl rfl (by kernel_rfl) (by kernel_rfl) (by kernel_rfl) (by kernel_rfl) (fun _ _ _ h => h) (Or.inl ⟨by kernel_rfl, ?hy⟩) hS ?_
                  case hy =>
                    intro W hW
                    skip
                    go_simp
                    try with_reducible rfl
                  (try simp only [Act.put]); (try simp only [List.setIfInBounds_toArray]); (try simp only [List.set_cons_succ]); (try simp only [List.set_cons_zero])
                  refine wpN_take (i := 32) (v := ?_) rfl rfl (by kernel_rfl) (by kernel_rfl) (by kernel_rfl) (by kernel_rfl) (fun _ _ _ h => h) (Or.inl ⟨by kernel_rfl, ?hy⟩) hS ?_
                  case hy =>
                    intro W hW
                    have y := hW.l2
                    go_simp
                    try with_reducible rfl
                  (try simp only [Act.put]); (try simp only [List.setIfInBounds_toArray]); (try simp only [List.set_cons_succ]); (try simp only [List.set_cons_zero])
                  refine wpN_only (i := 33) rfl (by kernel_rfl) (fun K hK => ?_)
                  go_simp
                  refine goto hK hS ?_
                  clear hS hK K
                  intro hS
                  (try simp only [Act.put]); (try simp only [List.setIfInBounds_toArray]); (try simp only [List.set_cons_succ]); (try simp only [List.set_cons_zero])
                  refine wpN_only (i := 34) rfl (by kernel_rfl) (fun K hK => ?_)
                  go_simp
                  refine goto hK hS ?_
                  clear hS hK K
                  intro hS
                  (try simp only [Act.put]); (try simp only [List.setIfInBounds_toArray]); (try simp only [List.set_cons_succ]); (try simp only [List.set_cons_zero])
                  refine wpN_only (i := 35) rfl (by kernel_rfl) (fun K hK => ?_)
                  go_simp
                  refine goto hK hS ?_
                  clear hS hK K
                  intro hS
                  (try simp only [Act.put]); (try simp only [List.setIfInBounds_toArray]); (try simp only [List.set_cons_succ]); (try simp only [List.set_cons_zero])
                  refine wpN_take (i := 36) (v := ?_) rfl rfl (by kernel_rfl) (by kernel_rfl) (by kernel_rfl) (by kernel_rfl) (fun _ _ _ h => h) (Or.inl ⟨by kernel_rfl, ?hy⟩) hS ?_
                  case hy =>
                    intro W hW
                    skip
                    go_simp
                    try with_reducible rfl
                  (try simp only [Act.put]); (try simp only [List.setIfInBounds_toArray]); (try simp only [List.set_cons_succ]); (try simp only [List.set_cons_zero])
                  refine wpN_take (i := 37) (v := ?_) rfl rfl (by kernel_rfl) (by kernel_rfl) (by kernel_rfl) (by kernel_rfl) (fun _ _ _ h => h) (Or.inl ⟨by kernel_rfl, ?hy⟩) hS ?_
                  case hy =>
                    intro W hW
                    skip
                    go_simp
                    try with_reducible rfl
                  (try simp only [Act.put]); (try simp only [List.setIfInBounds_toArray]); (try simp only [List.set_cons_succ]); (try simp only [List.set_cons_zero])
                  refine wpN_take (i := 38) (v := ?_) rfl rfl (by kernel_rfl) (by kernel_rfl) (by kernel_rfl) (by kernel_rfl) (fun _ _ _ h => h) (Or.inl ⟨by kernel_rfl, ?hy⟩) hS ?_
                  case hy =>
                    intro W hW
                    skip
                    go_simp
                    try with_reducible rfl
                  (try simp only [Act.put]); (try simp only [List.setIfInBounds_toArray]); (try simp only [List.set_cons_succ]); (try simp only [List.set_cons_zero])
                  refine wpN_take (i := 39) (v := ?_) rfl rfl (by kernel_rfl) (by kernel_rfl) (by kernel_rfl) (by kernel_rfl) (fun _ _ _ h => h) (Or.inl ⟨by kernel_rfl, ?hy⟩) hS ?_
                  case hy =>
                    intro W hW
                    skip
                    go_simp
                    try with_reducible rfl
                  (try simp only [Act.put]); (try simp only [List.setIfInBounds_toArray]); (try simp only [List.set_cons_succ]); (try simp only [List.set_cons_zero])
                  refine wpN_take (i := 40) (v := ?_) rfl rfl (by kernel_rfl) (by kernel_rfl) (by kernel_rfl) (by kernel_rfl) (fun _ _ _ h => h) (Or.inl ⟨by kernel_rfl, ?hy⟩) hS ?_
                  case hy =>
                    intro W hW
                    skip
                    go_simp
                    try with_reducible rfl
                  (try simp only [Act.put]); (try simp only [List.setIfInBounds_toArray]); (try simp only [List.set_cons_succ]); (try simp only [List.set_cons_zero])
                  refine wpN_take (i := 41) (v := ?_) rfl rfl (by kernel_rfl) (by kernel_rfl) (by kernel_rfl) (by kernel_rfl) (fun _ _ _ h => h) (Or.inl ⟨by kernel_rfl, ?hy⟩) hS ?_
                  case hy =>
                    intro W hW
                    have y := hW.l0
                    go_simp
                    try with_reducible rfl
                  (try simp only [Act.put]); (try simp only [List.setIfInBounds_toArray]); (try simp only [List.set_cons_succ]); (try simp only [List.set_cons_zero])
                  refine wpN_only (i := 42) rfl (by kernel_rfl) (fun K hK => ?_)
                  go_simp
                  refine goto hK hS ?_
                  clear hS hK K
                  intro hS
                  (try simp only [Act.put]); (try simp only [List.setIfInBounds_toArray]); (try simp only [List.set_cons_succ]); (try simp only [List.set_cons_zero])
                  refine wpN_only (i := 43) rfl (by kernel_rfl) (fun K hK => ?_)
                  go_simp
                  refine goto hK hS ?_
                  clear hS hK K
                  intro hS
                  (try simp only [Act.put]); (try simp only [List.setIfInBounds_toArray]); (try simp only [List.set_cons_succ]); (try simp only [List.set_cons_zero])
                  refine wpN_done (by kernel_rfl) ?_ _
                  refine NoPanic.normal ?_
                  have hT7 := hS.toT
                  have HT7 := Sh.mk hT7
                  clear hT7 hS HV hne
                  go_wp2_with fail
                  go_roundw
                  case rel =>
                    exact ⟨t + K, j + 1, c' - K, A2, l'.drop K, by omega, by rw [List.length_drop], by go_num, by rw [List.length_drop]; omega, by omega, htK, by rw [List.length_drop]; omega, ⟨by rw [List.length_drop]; have := HLL.out.1; omega, by rw [HLL.out.2, List.drop_drop]⟩, ⟨HA2.out ▸ row_cut HRW.out hlc hK2⟩, ⟨_, _, _, _, HT7.out⟩⟩
                  case measure => simp; omega
        · obtain rfl : l' = [] := List.eq_nil_of_length_eq_zero (by omega)
          have hbl := (show Below w.heap.size w wr by obtain ⟨_, _, _, _, h⟩ := HT.out; exact h.bl)
          have HB := Sh.mk hbl
          clear hbl
          go_wp2_with fail
          go_ret
          exact ⟨rfl, HB.out⟩
end Go.Proofs.Ytbjpilnlkmajpaa
