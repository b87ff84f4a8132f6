import Derived.Test.YtbjpilnlkmajpaaMd
import Derived.Test.YtbjpilnlkmajpaaPsh
namespace Go.Proofs.Ytbjpilnlkmajpaa
set_option linter.unusedVariables false
set_option linter.unusedSimpArgs false
open Go.RowKit Go.Maps Go.Proofs.K

theorem bl_alloc' {w W : World} (h : Below w.heap.size w W) (o : Obj) : Below w.heap.size w (W.alloc o) := bl_alloc h o
theorem E_int : Elem Try.prog encInt 34 3 1 8 where
  len _ := rfl
  one x u hu := by simp [encInt] at hu; subst hu; rfl
  ht := Try.underlying34
  info := by
    have i0 : (Try.prog.info? 3).map (fun i => (i.zero, i.size, i.bytes)) = some (some (.int .i64 0), 1, 8) := by kernel_rfl
    obtain ⟨i, h1, h2, h3, h4⟩ := info_parts i0
    exact ⟨i, _, h1, h2, h3, h4, rfl⟩
  pos := by omega
theorem E_cell : Elem Try.prog encCell 22 39 2 32 where
  len _ := rfl
  one x u hu := by simp [encCell] at hu; rcases hu with rfl | rfl <;> rfl
  ht := Try.underlying22
  info := by
    have i0 : (Try.prog.info? 39).map (fun i => (i.zero, i.size, i.bytes)) = some (some (.agg #[.string ⟨#[]⟩, .string ⟨#[]⟩]), 2, 32) := by kernel_rfl
    obtain ⟨i, h1, h2, h3, h4⟩ := info_parts i0
    exact ⟨i, _, h1, h2, h3, h4, rfl⟩
  pos := by omega
theorem E_rec : Elem Try.prog encRec 35 31 11 112 where
  len _ := rfl
  one x u hu := by simp [encRec] at hu; rcases hu with rfl | rfl | rfl | rfl | rfl | rfl | rfl | rfl | rfl | rfl | rfl <;> rfl
  ht := Try.underlying35
  info := by
    have i0 : (Try.prog.info? 31).map (fun i => (i.zero, i.size, i.bytes)) = some (some (.agg #[.int .i64 0, .int .i64 0, .int .i64 0, .int .i64 0, .int .i64 0, .string ⟨#[]⟩, .bool false, .string ⟨#[]⟩, .bool false, .string ⟨#[]⟩, .int .i64 0]), 11, 112) := by kernel_rfl
    obtain ⟨i, h1, h2, h3, h4⟩ := info_parts i0
    exact ⟨i, _, h1, h2, h3, h4, rfl⟩
  pos := by omega

set_option maxHeartbeats 1000000 in
set_option maxRecDepth 100000 in
theorem has_calls (A : Option Addr) (c : Nat) (l : List Int) (n : Int) (w : World) (hr : RowOf encInt 1 w A l) (hl : l.length ≤ 9223372036854775807) :
    Calls Try.prog 19 #[.slice A l.length c, .int .i64 n] w fun e w' => e = .returned (.bool (hasF l n)) ∧ Below w.heap.size w w' := by
  have HR := Sh.mk hr
  generalize hG : hasF l n = R
  have HG := Sh.mk hG
  clear hG hr
  go_enter Try.func19, Try.ntmps19
  go_wp2_with fail
  go_loopw [5] (fun i wr => ∃ k : Nat, k ≤ l.length ∧ i = .int .i64 k ∧ Below w.heap.size w wr ∧ Sh (hasF (l.take k) n = false)) (fun i _ => l.length - (intOf i).toNat)
  case atStart => exact ⟨0, Nat.zero_le _, rfl, Below.refl _ _, ⟨rfl⟩⟩
  case round =>
    obtain ⟨k, hk, rfl, hbw, HA⟩ := hrel
    by_cases hlt : k < l.length
    · obtain ⟨x, hx⟩ : ∃ x, x = l[k] := ⟨_, rfl⟩
      obtain ⟨b, off, rfl, hc⟩ := HR.out k hlt
      rw [← hx] at hc
      have hc0 : wr.cell? ⟨b, off + k * 1, none⟩ = some (.int .i64 x) := below_cell hbw (hc 0 _ rfl)
      rw [Nat.mul_one] at hc0
      have HX := Sh.mk hx
      clear hx hc
      by_cases hxy : x = n
      · have hz : (x == n) = true := by simp [hxy]
        have HE := Sh.mk hxy
        clear hxy
        go_wp2_with fail
        try go_quiet (fail)
        go_wp2_with fail
        go_ret
        refine ⟨?_, ?_⟩
        · have : hasF l n = true := List.any_eq_true.2 ⟨x, HX.out ▸ List.getElem_mem hlt, hz⟩
          rw [← HG.out, this]
          rfl
        · first | exact hbw | exact bl_drewN hbw _ | exact bl_drew hbw
      · have hz : (x == n) = false := by simp [hxy]
        have HE := Sh.mk hxy
        clear hxy
        go_wp2_with fail
        try go_quiet (fail)
        go_wp2_with fail
        go_roundw
        case rel => exact ⟨k + 1, by omega, by go_num, by first | exact hbw | exact bl_drewN hbw _ | exact bl_drew hbw, ⟨any_succ hlt HX.out HA.out hz⟩⟩
        case measure => simp [intOf]; omega
    · obtain rfl : k = l.length := by omega
      go_wp2_with fail
      go_ret
      refine ⟨?_, hbw⟩
      have h := HA.out
      rw [List.take_length] at h
      rw [← HG.out, h]
      rfl

set_option maxHeartbeats 4000000 in
set_option maxRecDepth 100000 in
theorem with_calls (A : Option Addr) (c : Nat) (l : List Int) (n : Int) (inn : Bool) (w : World) (hr : RowOf encInt 1 w A l) (hl : l.length ≤ 1000000000) :
    Calls Try.prog 22 #[.slice A l.length c, .int .i64 n, .bool inn] w fun e w' => ∃ v, e = .returned v ∧ Own encInt 3 1 w' w.heap.size v (withF l n inn) ∧ Below w.heap.size w w' := by
  have HR := Sh.mk hr
  have hl2 : l.length ≤ 9223372036854775807 := by omega
  clear hr
  obtain ⟨st, hst⟩ : ∃ st, st = putStep (fun x => decide (n ≤ x)) (fun x => x != n) (n : Int) := ⟨_, rfl⟩
  have HGL : Sh (∀ k, ((l.take k).foldl st ([], !inn)).1.length ≤ k + 1) := ⟨fun k => by rw [hst]; refine Nat.le_trans (put_go_length _ _ _ inn _) ?_; have := List.length_take_le k l; omega⟩
  have HST := Sh.mk hst
  clear hst
  go_enter Try.func22, Try.ntmps22
  have HB0 := Sh.mk (Below.refl w.heap.size w)
  go_wp2_with fail
  go_loopw [7, 8, 9] (fun v d i wr => ∃ (k : Nat) (q : Bool), k ≤ l.length ∧ i = .int .i64 k ∧ d = .bool q ∧ Below w.heap.size w wr ∧ Sh (q = ((l.take k).foldl st ([], !inn)).2) ∧ Sh (Own encInt 3 1 wr w.heap.size v ((l.take k).foldl st ([], !inn)).1)) (fun _ _ i _ => l.length - (intOf i).toNat)
  case atStart => exact ⟨0, _, Nat.zero_le _, rfl, rfl, Below.refl _ _, ⟨rfl⟩, ⟨Own.nil _ _ _ _ _⟩⟩
  case round =>
    obtain ⟨k, q, hk, rfl, rfl, hbw, HQ, HO⟩ := hrel
    have HL := Sh.mk (HGL.out k)
    by_cases hlt : k < l.length
    · obtain ⟨x, hx⟩ : ∃ x, x = l[k] := ⟨_, rfl⟩
      obtain ⟨b, off, rfl, hc⟩ := HR.out k hlt
      rw [← hx] at hc
      have hc0w : w.cell? ⟨b, off + k, none⟩ = some (.int .i64 x) := by simpa using hc 0 _ rfl
      have hc0 := below_cell hbw hc0w
      have HC := Sh.mk (And.intro hc0w hc0w)
      have HS := Sh.mk (foldl_succ st ([], !inn) l k hlt hx)
      clear hx hc hc0w
      generalize (l.take k).foldl st ([], !inn) = s at HQ HO HS HL
      obtain ⟨acc, q'⟩ := s
      obtain rfl : q = q' := HQ.out
      clear HQ
      dsimp only at HO HL
      cases q
      · by_cases hgx : n ≤ x
        · by_cases hex : x = n
          · have hg : decide (n ≤ x) = true := by simp; omega
            have hne : (x != n) = false := by simp; omega
            clear hgx hex
            go_wp2_with (at_builtin; refine Sh.out ?_)
            refine ⟨?_⟩
            refine wpl_push E_int rfl _ _ rfl w.heap.size _ acc (n : Int) wr.heap.size rfl rfl (HO.out.alloc _) (by exact Blk.new wr _ _) (by have := HL.out; simp; omega) (by have := HL.out; unfold maxLen; simp; omega) (by have := hbw.size; simp; omega) ?_
            intro v10 w10 ho hch _
            have hbw10 := push_below (w := w) (bl_alloc' hbw _) (HO.out.alloc _) hch
            have HO10 := Sh.mk ho
            clear ho hch HO
            have hc0' := below_cell hbw10 HC.out.1
            go_wp2_with fail
            go_roundw
            case rel =>
              refine ⟨k + 1, true, by omega, by go_num, rfl, hbw10, ⟨?_⟩, ?_⟩
              · rw [HS.out, HST.out]; simp [putStep, hg, hne]
              · have hE : st (acc, false) x = ((acc ++ [(n : Int)]), true) := by rw [HST.out]; simp [putStep, hg, hne]
                rw [HS.out, hE]
                exact HO10
            case measure => simp [intOf]; omega
          · have hg : decide (n ≤ x) = true := by simp; omega
            have hne : (x != n) = true := by simp; omega
            clear hgx hex
            go_wp2_with (at_builtin; refine Sh.out ?_)
            refine ⟨?_⟩
            refine wpl_push E_int rfl _ _ rfl w.heap.size _ acc (n : Int) wr.heap.size rfl rfl (HO.out.alloc _) (by exact Blk.new wr _ _) (by have := HL.out; simp; omega) (by have := HL.out; unfold maxLen; simp; omega) (by have := hbw.size; simp; omega) ?_
            intro v10 w10 ho hch _
            have hbw10 := push_below (w := w) (bl_alloc' hbw _) (HO.out.alloc _) hch
            have HO10 := Sh.mk ho
            clear ho hch HO
            have hc0' := below_cell hbw10 HC.out.1
            go_wp2_with (at_builtin; refine Sh.out ?_)
            refine ⟨?_⟩
            refine wpl_push E_int rfl _ _ rfl w.heap.size _ (acc ++ [(n : Int)]) x w10.heap.size rfl rfl (HO10.out.alloc _) (by exact Blk.new w10 _ _) (by have := HL.out; simp; omega) (by have := HL.out; unfold maxLen; simp; omega) (by have := hbw10.size; simp; omega) ?_
            intro v11 w11 ho hch _
            have hbw11 := push_below (w := w) (bl_alloc' hbw10 _) (HO10.out.alloc _) hch
            have HO11 := Sh.mk ho
            clear ho hch HO10
            go_wp2_with fail
            go_roundw
            case rel =>
              refine ⟨k + 1, true, by omega, by go_num, rfl, hbw11, ⟨?_⟩, ?_⟩
              · rw [HS.out, HST.out]; simp [putStep, hg, hne]
              · have hE : st (acc, false) x = (((acc ++ [(n : Int)]) ++ [x]), true) := by rw [HST.out]; simp [putStep, hg, hne]
                rw [HS.out, hE]
                exact HO11
            case measure => simp [intOf]; omega
        · by_cases hex : x = n
          · omega
          · have hg : decide (n ≤ x) = false := by simp; omega
            have hne : (x != n) = true := by simp; omega
            clear hgx hex
            go_wp2_with (at_builtin; refine Sh.out ?_)
            refine ⟨?_⟩
            refine wpl_push E_int rfl _ _ rfl w.heap.size _ acc x wr.heap.size rfl rfl (HO.out.alloc _) (by exact Blk.new wr _ _) (by have := HL.out; simp; omega) (by have := HL.out; unfold maxLen; simp; omega) (by have := hbw.size; simp; omega) ?_
            intro v10 w10 ho hch _
            have hbw10 := push_below (w := w) (bl_alloc' hbw _) (HO.out.alloc _) hch
            have HO10 := Sh.mk ho
            clear ho hch HO
            go_wp2_with fail
            go_roundw
            case rel =>
              refine ⟨k + 1, false, by omega, by go_num, rfl, hbw10, ⟨?_⟩, ?_⟩
              · rw [HS.out, HST.out]; simp [putStep, hg, hne]
              · have hE : st (acc, false) x = ((acc ++ [x]), false) := by rw [HST.out]; simp [putStep, hg, hne]
                rw [HS.out, hE]
                exact HO10
            case measure => simp [intOf]; omega
      · by_cases hgx : n ≤ x
        · by_cases hex : x = n
          · have hg : decide (n ≤ x) = true := by simp; omega
            have hne : (x != n) = false := by simp; omega
            clear hgx hex
            go_wp2_with fail
            go_roundw
            case rel =>
              refine ⟨k + 1, true, by omega, by go_num, rfl, hbw, ⟨?_⟩, ?_⟩
              · rw [HS.out, HST.out]; simp [putStep, hg, hne]
              · have hE : st (acc, true) x = (acc, true) := by rw [HST.out]; simp [putStep, hg, hne]
                rw [HS.out, hE]
                exact HO
            case measure => simp [intOf]; omega
          · have hg : decide (n ≤ x) = true := by simp; omega
            have hne : (x != n) = true := by simp; omega
            clear hgx hex
            go_wp2_with (at_builtin; refine Sh.out ?_)
            refine ⟨?_⟩
            refine wpl_push E_int rfl _ _ rfl w.heap.size _ acc x wr.heap.size rfl rfl (HO.out.alloc _) (by exact Blk.new wr _ _) (by have := HL.out; simp; omega) (by have := HL.out; unfold maxLen; simp; omega) (by have := hbw.size; simp; omega) ?_
            intro v10 w10 ho hch _
            have hbw10 := push_below (w := w) (bl_alloc' hbw _) (HO.out.alloc _) hch
            have HO10 := Sh.mk ho
            clear ho hch HO
            go_wp2_with fail
            go_roundw
            case rel =>
              refine ⟨k + 1, true, by omega, by go_num, rfl, hbw10, ⟨?_⟩, ?_⟩
              · rw [HS.out, HST.out]; simp [putStep, hg, hne]
              · have hE : st (acc, true) x = ((acc ++ [x]), true) := by rw [HST.out]; simp [putStep, hg, hne]
                rw [HS.out, hE]
                exact HO10
            case measure => simp [intOf]; omega
        · by_cases hex : x = n
          · omega
          · have hg : decide (n ≤ x) = false := by simp; omega
            have hne : (x != n) = true := by simp; omega
            clear hgx hex
            go_wp2_with (at_builtin; refine Sh.out ?_)
            refine ⟨?_⟩
            refine wpl_push E_int rfl _ _ rfl w.heap.size _ acc x wr.heap.size rfl rfl (HO.out.alloc _) (by exact Blk.new wr _ _) (by have := HL.out; simp; omega) (by have := HL.out; unfold maxLen; simp; omega) (by have := hbw.size; simp; omega) ?_
            intro v10 w10 ho hch _
            have hbw10 := push_below (w := w) (bl_alloc' hbw _) (HO.out.alloc _) hch
            have HO10 := Sh.mk ho
            clear ho hch HO
            go_wp2_with fail
            go_roundw
            case rel =>
              refine ⟨k + 1, true, by omega, by go_num, rfl, hbw10, ⟨?_⟩, ?_⟩
              · rw [HS.out, HST.out]; simp [putStep, hg, hne]
              · have hE : st (acc, true) x = ((acc ++ [x]), true) := by rw [HST.out]; simp [putStep, hg, hne]
                rw [HS.out, hE]
                exact HO10
            case measure => simp [intOf]; omega
    · obtain rfl : k = l.length := by omega
      rw [List.take_length] at HQ HO HL
      have HP : Sh (withF l n inn = if (l.foldl st ([], !inn)).2 = true then (l.foldl st ([], !inn)).1 else (l.foldl st ([], !inn)).1 ++ [n]) := ⟨by rw [HST.out]; rfl⟩
      generalize l.foldl st ([], !inn) = s at HQ HO HP HL
      obtain ⟨acc, q'⟩ := s
      obtain rfl : q = q' := HQ.out
      clear HQ
      dsimp only at HO HP HL
      cases q
      · go_wp2_with (at_builtin; refine Sh.out ?_)
        refine ⟨?_⟩
        refine wpl_push E_int rfl _ _ rfl w.heap.size _ acc (n : Int) wr.heap.size rfl rfl (HO.out.alloc _) (by exact Blk.new wr _ _) (by have := HL.out; simp; omega) (by have := HL.out; unfold maxLen; simp; omega) (by have := hbw.size; simp; omega) ?_
        intro v10 w10 ho hch _
        have hbw10 := push_below (w := w) (bl_alloc' hbw _) (HO.out.alloc _) hch
        have HO10 := Sh.mk ho
        clear ho hch HO
        go_wp2_with fail
        go_ret
        refine ⟨_, rfl, ?_, ?_⟩
        · rw [HP.out]
          exact HO10.out
        · exact hbw10
      · go_wp2_with fail
        go_ret
        refine ⟨_, rfl, ?_, ?_⟩
        · rw [HP.out]
          exact HO.out
        · exact hbw

set_option maxHeartbeats 4000000 in
set_option maxRecDepth 100000 in
theorem set_calls (A : Option Addr) (c : Nat) (l : List CL) (key : ByteArray) (val : VL) (w : World) (hr : RowOf encCell 2 w A l) (hl : l.length ≤ 1000000000) :
    Calls Try.prog 7 #[.slice A l.length c, .string key, .agg #[.bool val.has, .string val.s]] w fun e w' => ∃ v, e = .returned v ∧ Own encCell 39 2 w' w.heap.size v (setF l key val) ∧ Below w.heap.size w w' := by
  have HR := Sh.mk hr
  have hl2 : l.length ≤ 9223372036854775807 := by omega
  clear hr
  obtain ⟨st, hst⟩ : ∃ st, st = putStep (fun c => !(Op.bytesLess c.key.toList key.toList)) (fun c => c.key.toList != key.toList) (⟨key, val.s⟩ : CL) := ⟨_, rfl⟩
  have HGL : Sh (∀ k, ((l.take k).foldl st ([], !val.has)).1.length ≤ k + 1) := ⟨fun k => by rw [hst]; refine Nat.le_trans (put_go_length _ _ _ val.has _) ?_; have := List.length_take_le k l; omega⟩
  have HST := Sh.mk hst
  clear hst
  go_enter Try.func7, Try.ntmps7
  have hv0 : (w.alloc (.cells #[.bool val.has, .string val.s] 29)).cell? ⟨w.heap.size, 0, none⟩ = some (.bool val.has) := by go_simp
  have hv1 : (w.alloc (.cells #[.bool val.has, .string val.s] 29)).cell? ⟨w.heap.size, 1, none⟩ = some (.string val.s) := by go_simp
  have HV := Sh.mk hv1
  clear hv0 hv1
  go_wp2_with fail
  refine wp_gen (fun W => W.cell? ⟨w.heap.size, 1, none⟩ = some (.string val.s) ∧ Below w.heap.size w W) ⟨HV.out, bl_alloc (Below.refl _ _) _⟩ ?_
  clear HV
  rintro w1 ⟨hv1, hb1⟩
  have HV := Sh.mk hv1
  have HB0 := Sh.mk hb1
  clear hv1 hb1
  have HR1 := Sh.mk (HR.out.below HB0.out)
  go_loopw [7, 8, 9] (fun v d i wr => ∃ (k : Nat) (q : Bool), k ≤ l.length ∧ i = .int .i64 k ∧ d = .bool q ∧ Below w1.heap.size w1 wr ∧ Sh (q = ((l.take k).foldl st ([], !val.has)).2) ∧ Sh (Own encCell 39 2 wr w1.heap.size v ((l.take k).foldl st ([], !val.has)).1)) (fun _ _ i _ => l.length - (intOf i).toNat)
  case atStart => exact ⟨0, _, Nat.zero_le _, rfl, rfl, Below.refl _ _, ⟨rfl⟩, ⟨Own.nil _ _ _ _ _⟩⟩
  case round =>
    obtain ⟨k, q, hk, rfl, rfl, hbw, HQ, HO⟩ := hrel
    have HL := Sh.mk (HGL.out k)
    by_cases hlt : k < l.length
    · obtain ⟨x, hx⟩ : ∃ x, x = l[k] := ⟨_, rfl⟩
      obtain ⟨b, off, rfl, hc⟩ := HR.out k hlt
      rw [← hx] at hc
      have hc0w : w.cell? ⟨b, off + k * 2, none⟩ = some (.string x.key) := hc 0 _ rfl
      replace hc0w := below_cell HB0.out hc0w
      have hc0 := below_cell hbw hc0w
      have hc1w : w.cell? ⟨b, off + k * 2 + 1, none⟩ = some (.string x.val) := hc 1 _ rfl
      replace hc1w := below_cell HB0.out hc1w
      have hc1 := below_cell hbw hc1w
      have HC := Sh.mk (And.intro hc0w hc1w)
      have hv := below_cell hbw HV.out
      have HS := Sh.mk (foldl_succ st ([], !val.has) l k hlt hx)
      clear hx hc hc0w hc1w
      generalize (l.take k).foldl st ([], !val.has) = s at HQ HO HS HL
      obtain ⟨acc, q'⟩ := s
      obtain rfl : q = q' := HQ.out
      clear HQ
      dsimp only at HO HL
      cases q
      · by_cases hgx : Op.bytesLess x.key.toList key.toList = false
        · by_cases hex : x.key.toList = key.toList
          · have hg : Op.bytesLess x.key.toList key.toList = false := by simpa using hgx
            have hne : (x.key.toList != key.toList) = false := by simpa using hex
            have hne2 : (x.key.toList == key.toList) = true := by simpa using hex
            clear hgx hex
            go_wp2_with (at_builtin; refine Sh.out ?_)
            refine ⟨?_⟩
            refine wpl_push E_cell rfl _ _ rfl w1.heap.size _ acc (⟨key, val.s⟩ : CL) wr.heap.size rfl rfl (HO.out.alloc _) (by exact Blk.new wr _ _) (by have := HL.out; simp; omega) (by have := HL.out; unfold maxLen; simp; omega) (by have := hbw.size; simp; omega) ?_
            intro v10 w10 ho hch _
            have hbw10 := push_below (w := w1) (bl_alloc' hbw _) (HO.out.alloc _) hch
            have HO10 := Sh.mk ho
            clear ho hch HO
            have hc0' := below_cell hbw10 HC.out.1
            have hc1' := below_cell hbw10 HC.out.2
            go_wp2_with fail
            go_roundw
            case rel =>
              refine ⟨k + 1, true, by omega, by go_num, rfl, hbw10, ⟨?_⟩, ?_⟩
              · rw [HS.out, HST.out]; simp [putStep, hg, hne]
              · have hE : st (acc, false) x = ((acc ++ [(⟨key, val.s⟩ : CL)]), true) := by rw [HST.out]; simp [putStep, hg, hne]
                rw [HS.out, hE]
                exact HO10
            case measure => simp [intOf]; omega
          · have hg : Op.bytesLess x.key.toList key.toList = false := by simpa using hgx
            have hne : (x.key.toList != key.toList) = true := by simpa using hex
            have hne2 : (x.key.toList == key.toList) = false := by simpa using hex
            clear hgx hex
            go_wp2_with (at_builtin; refine Sh.out ?_)
            refine ⟨?_⟩
            refine wpl_push E_cell rfl _ _ rfl w1.heap.size _ acc (⟨key, val.s⟩ : CL) wr.heap.size rfl rfl (HO.out.alloc _) (by exact Blk.new wr _ _) (by have := HL.out; simp; omega) (by have := HL.out; unfold maxLen; simp; omega) (by have := hbw.size; simp; omega) ?_
            intro v10 w10 ho hch _
            have hbw10 := push_below (w := w1) (bl_alloc' hbw _) (HO.out.alloc _) hch
            have HO10 := Sh.mk ho
            clear ho hch HO
            have hc0' := below_cell hbw10 HC.out.1
            have hc1' := below_cell hbw10 HC.out.2
            go_wp2_with (at_builtin; refine Sh.out ?_)
            refine ⟨?_⟩
            refine wpl_push E_cell rfl _ _ rfl w1.heap.size _ (acc ++ [(⟨key, val.s⟩ : CL)]) x w10.heap.size rfl rfl (HO10.out.alloc _) (by exact Blk.new w10 _ _) (by have := HL.out; simp; omega) (by have := HL.out; unfold maxLen; simp; omega) (by have := hbw10.size; simp; omega) ?_
            intro v11 w11 ho hch _
            have hbw11 := push_below (w := w1) (bl_alloc' hbw10 _) (HO10.out.alloc _) hch
            have HO11 := Sh.mk ho
            clear ho hch HO10
            go_wp2_with fail
            go_roundw
            case rel =>
              refine ⟨k + 1, true, by omega, by go_num, rfl, hbw11, ⟨?_⟩, ?_⟩
              · rw [HS.out, HST.out]; simp [putStep, hg, hne]
              · have hE : st (acc, false) x = (((acc ++ [(⟨key, val.s⟩ : CL)]) ++ [x]), true) := by rw [HST.out]; simp [putStep, hg, hne]
                rw [HS.out, hE]
                exact HO11
            case measure => simp [intOf]; omega
        · by_cases hex : x.key.toList = key.toList
          · rw [hex, less_irrefl] at hgx; simp at hgx
          · have hg : Op.bytesLess x.key.toList key.toList = true := by simpa using hgx
            have hne : (x.key.toList != key.toList) = true := by simpa using hex
            have hne2 : (x.key.toList == key.toList) = false := by simpa using hex
            clear hgx hex
            go_wp2_with (at_builtin; refine Sh.out ?_)
            refine ⟨?_⟩
            refine wpl_push E_cell rfl _ _ rfl w1.heap.size _ acc x wr.heap.size rfl rfl (HO.out.alloc _) (by exact Blk.new wr _ _) (by have := HL.out; simp; omega) (by have := HL.out; unfold maxLen; simp; omega) (by have := hbw.size; simp; omega) ?_
            intro v10 w10 ho hch _
            have hbw10 := push_below (w := w1) (bl_alloc' hbw _) (HO.out.alloc _) hch
            have HO10 := Sh.mk ho
            clear ho hch HO
            go_wp2_with fail
            go_roundw
            case rel =>
              refine ⟨k + 1, false, by omega, by go_num, rfl, hbw10, ⟨?_⟩, ?_⟩
              · rw [HS.out, HST.out]; simp [putStep, hg, hne]
              · have hE : st (acc, false) x = ((acc ++ [x]), false) := by rw [HST.out]; simp [putStep, hg, hne]
                rw [HS.out, hE]
                exact HO10
            case measure => simp [intOf]; omega
      · by_cases hgx : Op.bytesLess x.key.toList key.toList = false
        · by_cases hex : x.key.toList = key.toList
          · have hg : Op.bytesLess x.key.toList key.toList = false := by simpa using hgx
            have hne : (x.key.toList != key.toList) = false := by simpa using hex
            have hne2 : (x.key.toList == key.toList) = true := by simpa using hex
            clear hgx hex
            go_wp2_with fail
            go_roundw
            case rel =>
              refine ⟨k + 1, true, by omega, by go_num, rfl, hbw, ⟨?_⟩, ?_⟩
              · rw [HS.out, HST.out]; simp [putStep, hg, hne]
              · have hE : st (acc, true) x = (acc, true) := by rw [HST.out]; simp [putStep, hg, hne]
                rw [HS.out, hE]
                exact HO
            case measure => simp [intOf]; omega
          · have hg : Op.bytesLess x.key.toList key.toList = false := by simpa using hgx
            have hne : (x.key.toList != key.toList) = true := by simpa using hex
            have hne2 : (x.key.toList == key.toList) = false := by simpa using hex
            clear hgx hex
            go_wp2_with (at_builtin; refine Sh.out ?_)
            refine ⟨?_⟩
            refine wpl_push E_cell rfl _ _ rfl w1.heap.size _ acc x wr.heap.size rfl rfl (HO.out.alloc _) (by exact Blk.new wr _ _) (by have := HL.out; simp; omega) (by have := HL.out; unfold maxLen; simp; omega) (by have := hbw.size; simp; omega) ?_
            intro v10 w10 ho hch _
            have hbw10 := push_below (w := w1) (bl_alloc' hbw _) (HO.out.alloc _) hch
            have HO10 := Sh.mk ho
            clear ho hch HO
            go_wp2_with fail
            go_roundw
            case rel =>
              refine ⟨k + 1, true, by omega, by go_num, rfl, hbw10, ⟨?_⟩, ?_⟩
              · rw [HS.out, HST.out]; simp [putStep, hg, hne]
              · have hE : st (acc, true) x = ((acc ++ [x]), true) := by rw [HST.out]; simp [putStep, hg, hne]
                rw [HS.out, hE]
                exact HO10
            case measure => simp [intOf]; omega
        · by_cases hex : x.key.toList = key.toList
          · rw [hex, less_irrefl] at hgx; simp at hgx
          · have hg : Op.bytesLess x.key.toList key.toList = true := by simpa using hgx
            have hne : (x.key.toList != key.toList) = true := by simpa using hex
            have hne2 : (x.key.toList == key.toList) = false := by simpa using hex
            clear hgx hex
            go_wp2_with (at_builtin; refine Sh.out ?_)
            refine ⟨?_⟩
            refine wpl_push E_cell rfl _ _ rfl w1.heap.size _ acc x wr.heap.size rfl rfl (HO.out.alloc _) (by exact Blk.new wr _ _) (by have := HL.out; simp; omega) (by have := HL.out; unfold maxLen; simp; omega) (by have := hbw.size; simp; omega) ?_
            intro v10 w10 ho hch _
            have hbw10 := push_below (w := w1) (bl_alloc' hbw _) (HO.out.alloc _) hch
            have HO10 := Sh.mk ho
            clear ho hch HO
            go_wp2_with fail
            go_roundw
            case rel =>
              refine ⟨k + 1, true, by omega, by go_num, rfl, hbw10, ⟨?_⟩, ?_⟩
              · rw [HS.out, HST.out]; simp [putStep, hg, hne]
              · have hE : st (acc, true) x = ((acc ++ [x]), true) := by rw [HST.out]; simp [putStep, hg, hne]
                rw [HS.out, hE]
                exact HO10
            case measure => simp [intOf]; omega
    · obtain rfl : k = l.length := by omega
      rw [List.take_length] at HQ HO HL
      have HP : Sh (setF l key val = if (l.foldl st ([], !val.has)).2 = true then (l.foldl st ([], !val.has)).1 else (l.foldl st ([], !val.has)).1 ++ [⟨key, val.s⟩]) := ⟨by rw [HST.out]; rfl⟩
      generalize l.foldl st ([], !val.has) = s at HQ HO HP HL
      obtain ⟨acc, q'⟩ := s
      obtain rfl : q = q' := HQ.out
      clear HQ
      dsimp only at HO HP HL
      have hv := below_cell hbw HV.out
      cases q
      · go_wp2_with (at_builtin; refine Sh.out ?_)
        refine ⟨?_⟩
        refine wpl_push E_cell rfl _ _ rfl w1.heap.size _ acc (⟨key, val.s⟩ : CL) wr.heap.size rfl rfl (HO.out.alloc _) (by exact Blk.new wr _ _) (by have := HL.out; simp; omega) (by have := HL.out; unfold maxLen; simp; omega) (by have := hbw.size; simp; omega) ?_
        intro v10 w10 ho hch _
        have hbw10 := push_below (w := w1) (bl_alloc' hbw _) (HO.out.alloc _) hch
        have HO10 := Sh.mk ho
        clear ho hch HO
        go_wp2_with fail
        go_ret
        refine ⟨_, rfl, ?_, ?_⟩
        · rw [HP.out]
          exact HO10.out.lower HB0.out.size
        · exact below_trans HB0.out hbw10
      · go_wp2_with fail
        go_ret
        refine ⟨_, rfl, ?_, ?_⟩
        · rw [HP.out]
          exact HO.out.lower HB0.out.size
        · exact below_trans HB0.out hbw
end Go.Proofs.Ytbjpilnlkmajpaa
