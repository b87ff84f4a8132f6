import Derived.Test.YtapjjhdopelpjaaR01
namespace Go.Proofs.Ytapjjhdopelpjaa
set_option linter.unusedVariables false
set_option linter.unusedSimpArgs false
open Go.RowKit Go.Maps Go.Proofs.K

theorem E_rev : Elem Try.prog encEV 23 54 3 32 where
  len _ := rfl
  one x u hu := by simp [encEV] at hu; rcases hu with rfl | rfl | rfl <;> rfl
  ht := Try.underlying23
  info := by
    have i0 : (Try.prog.info? 54).map (fun i => (i.zero, i.size, i.bytes)) = some (some (.agg #[.int .i64 0, .int .i64 0, .string ⟨#[]⟩]), 3, 32) := by kernel_rfl
    obtain ⟨i, h1, h2, h3, h4⟩ := info_parts i0
    exact ⟨i, _, h1, h2, h3, h4, rfl⟩
  pos := by omega
def okF (l : List EV) : Bool := (l.take 50).all (fun e => decide (e.key.size ≤ 100)) && decide (l.length ≤ 50)

set_option maxHeartbeats 4000000 in
set_option maxRecDepth 100000 in
theorem of_calls (A : Option Addr) (c : Nat) (l : List EV) (w : World) (hr : RowOf encEV 3 w A l) (hl : l.length ≤ 9223372036854775807) :
    Calls Try.prog 6 #[.slice A l.length c] w fun e w' => ∃ v, e = .returned (.tuple #[v, .bool (okF l)]) ∧ (okF l = true → Own encEV 54 3 w' w.heap.size v l) ∧ Below w.heap.size w w' := by
  have HR := Sh.mk hr
  generalize hG : okF l = R
  have HG := Sh.mk hG
  clear hr hG
  go_enter Try.func6, Try.ntmps6
  go_wp2_with fail
  go_loopw [4, 5] (fun o i wr => ∃ k : Nat, k ≤ l.length ∧ k ≤ 50 ∧ i = .int .i64 k ∧ Sh ((l.take k).all (fun e => decide (e.key.size ≤ 100)) = true) ∧ Sh (Own encEV 54 3 wr w.heap.size o (l.take k)) ∧ Sh (Below w.heap.size w wr)) (fun _ i _ => 50 - (intOf i).toNat)
  case atStart => exact ⟨0, Nat.zero_le _, by omega, rfl, ⟨rfl⟩, ⟨Own.nil _ _ _ _ _⟩, ⟨Below.refl _ _⟩⟩
  case round =>
    obtain ⟨k, hk, hk5, rfl, HA, HO, HB⟩ := hrel
    by_cases hlt : k < l.length
    case neg =>
      obtain rfl : k = l.length := by omega
      rw [List.take_length] at HA HO
      have d1 : decide ((l.length : Int) ≤ 50) = true := by simp; omega
      have HE := Sh.mk (show R = true by rw [← HG.out]; unfold okF; rw [List.take_of_length_le hk5, HA.out]; simp [hk5])
      go_wp2_with fail
      go_ret2
      exact ⟨_, by rw [HE.out]; rfl, fun _ => HO.out, HB.out⟩
    by_cases h50 : k < 50
    case neg =>
      obtain rfl : k = 50 := by omega
      have d1 : decide ((l.length : Int) ≤ 50) = false := by simp; omega
      have HE := Sh.mk (show R = false by rw [← HG.out]; unfold okF; simp; omega)
      go_wp2_with fail
      go_ret2
      refine ⟨_, by rw [HE.out]; rfl, ?_, HB.out⟩
      intro h
      rw [HE.out] at h
      cases h
    obtain ⟨x, hx⟩ : ∃ x, x = l[k] := ⟨_, rfl⟩
    obtain ⟨b, off, hAe, hc⟩ := HR.out k hlt
    subst hAe
    rw [← hx] at hc
    have c0 : wr.cell? ⟨b, off + k * 3, none⟩ = some (.int .i64 x.txn) := below_cell HB.out (hc 0 _ rfl)
    have c1 : wr.cell? ⟨b, off + k * 3 + 1, none⟩ = some (.int .i64 x.kind) := below_cell HB.out (hc 1 _ rfl)
    have c2 : wr.cell? ⟨b, off + k * 3 + 2, none⟩ = some (.string x.key) := below_cell HB.out (hc 2 _ rfl)
    have HX := Sh.mk hx
    clear hx hc
    by_cases hs : x.key.size ≤ 100
    case neg =>
      have d2 : decide ((100 : Int) < (x.key.size : Int)) = true := by simp; omega
      have HE := Sh.mk (show R = false by
        rw [← HG.out]
        unfold okF
        have : (l.take 50).all (fun e => decide (e.key.size ≤ 100)) = false := by
          rw [List.all_eq_false]
          refine ⟨x, ?_, by simpa using hs⟩
          rw [HX.out, List.mem_take_iff_getElem]
          exact ⟨k, by omega, rfl⟩
        rw [this]
        rfl)
      clear hs
      go_wp2_with fail
      go_ret2
      refine ⟨_, by rw [HE.out]; rfl, ?_, HB.out⟩
      intro h
      rw [HE.out] at h
      cases h
    have d2 : decide ((100 : Int) < (x.key.size : Int)) = false := by simp; omega
    have HA2 := Sh.mk (show (l.take (k + 1)).all (fun e => decide (e.key.size ≤ 100)) = true by rw [List.take_succ_eq_append_getElem hlt, List.all_append, HA.out, ← HX.out]; simp [hs])
    have HTK := Sh.mk (show l.take k ++ [x] = l.take (k + 1) by rw [List.take_succ_eq_append_getElem hlt, ← HX.out])
    have HLL := Sh.mk (show (l.take k).length ≤ 50 by rw [List.length_take]; omega)
    generalize l.take k = acc at HO HTK HLL
    clear hs HA
    go_wp2_with (at_builtin; refine Sh.out ?_)
    refine ⟨?_⟩
    refine wpl_push E_rev rfl _ _ rfl w.heap.size _ acc x wr.heap.size rfl rfl (HO.out.alloc _) (by exact Blk.new wr _ _) (by have := HLL.out; omega) (by have := HLL.out; unfold maxLen; omega) (by have := HB.out.size; simp; omega) ?_
    intro v10 w10 ho hch _
    have hbw10 := push_below (w := w) (bl_alloc HB.out _) (HO.out.alloc _) hch
    have HO10 := Sh.mk ho
    have HB10 := Sh.mk hbw10
    clear ho hch hbw10 HO HB c0 c1 c2
    go_wp2_with fail
    go_roundw
    case rel => exact ⟨k + 1, by omega, by omega, by go_num, HA2, ⟨by rw [← HTK.out]; exact HO10.out⟩, HB10⟩
    case measure => simp [intOf]; omega

def awL : List EV := [⟨1, 2, ⟨#[97]⟩⟩, ⟨2, 1, ⟨#[97]⟩⟩, ⟨1, 3, ⟨#[]⟩⟩, ⟨2, 3, ⟨#[]⟩⟩]
theorem aw_right : hRightF awL = true := by decide
theorem aw_raw : edRaw awL = [⟨1, 2⟩] := by decide
theorem aw_edges : edgesF awL = [⟨1, 2⟩] := by
  unfold edgesF
  rw [if_pos aw_right, aw_raw]
  unfold sortP
  rw [List.mergeSort_singleton]
  rfl
theorem aw_ser : serF awL = some [1, 2] := by
  unfold serF
  rw [if_pos aw_right, aw_edges]
  decide
theorem aw_rec : hRecF awL = true := by decide
theorem aw_strict : hStrictF awL = false := by decide

set_option maxHeartbeats 4000000 in
set_option maxRecDepth 100000 in
theorem awake_calls (w : World) : Calls Try.prog 7 #[] w fun e w' => e = .returned (.bool true) ∧ Below w.heap.size w w' := by
  have HED := Sh.mk (fun W B (hb : Blk W B 53 (awL.flatMap encEV)) => edges_calls (some ⟨B, 0, none⟩) 4 awL W (Blk.rows (fun _ => rfl) hb) (by decide) (by decide) (by decide))
  have HSE := Sh.mk (fun W B (hb : Blk W B 53 (awL.flatMap encEV)) => serial_calls (some ⟨B, 0, none⟩) 4 awL W (Blk.rows (fun _ => rfl) hb) (by decide) (by decide) (by decide))
  have HRE := Sh.mk (fun W B (hb : Blk W B 53 (awL.flatMap encEV)) => hrec_calls (some ⟨B, 0, none⟩) 4 awL W (Blk.rows (fun _ => rfl) hb) (by decide) (by decide) (by decide))
  have HST := Sh.mk (fun W B (hb : Blk W B 53 (awL.flatMap encEV)) => hstrict_calls (some ⟨B, 0, none⟩) 4 awL W (Blk.rows (fun _ => rfl) hb) (by decide) (by decide) (by decide))
  rw [aw_edges] at HED
  rw [aw_ser] at HSE
  rw [aw_rec] at HRE
  rw [aw_strict] at HST
  go_enter Try.func7, Try.ntmps7
  go_wp2_with fail
  refine calls_gen (fun W => Blk W w.heap.size 53 (awL.flatMap encEV) ∧ Below w.heap.size w W) ⟨Blk.new _ _ _, bl_alloc (Below.refl _ _) _⟩ ?_
  rintro W1 ⟨hc1, hb1⟩
  have HC1 := Sh.mk hc1
  have HB1 := Sh.mk hb1
  refine (HED.out _ _ hc1).mono ?_
  rintro e W2 ⟨ve, rfl, ho2, hb2⟩
  obtain ⟨Ae, ce, hve, hce, -, hre⟩ := ho2.reads (fun _ => rfl)
  subst hve
  obtain ⟨b, off, hAe, hcc⟩ := hre 0 (by decide)
  subst hAe
  have e0 : W2.cell? ⟨b, off, none⟩ = some (.int .i64 1) := by have := hcc 0 _ rfl; simpa using this
  have e1 : W2.cell? ⟨b, off + 1, none⟩ = some (.int .i64 2) := by have := hcc 1 _ rfl; simpa using this
  have HE2 := Sh.mk (And.intro e0 e1)
  have HC2 := Sh.mk (HC1.out.below hb2)
  have HB2 := Sh.mk (below_trans HB1.out hb2)
  clear hc1 hb1 ho2 hb2 hre hcc e0 e1 hce HED HC1 HB1
  go_wp2_with fail
  refine (HSE.out _ _ HC2.out).mono ?_
  rintro e W3 ⟨vo, rfl, ho3, hb3⟩
  obtain ⟨Ao, co, hvo, hco, -, hro⟩ := ho3.reads (fun _ => rfl)
  subst hvo
  have HR3 := Sh.mk hro
  have e0 := below_cell hb3 HE2.out.1
  have e1 := below_cell hb3 HE2.out.2
  have HC3 := Sh.mk (HC2.out.below hb3)
  have HB3 := Sh.mk (below_trans HB2.out hb3)
  clear ho3 hb3 hro hco HSE HC2 HB2 HE2
  go_wp2_with fail
  refine calls_gen (fun W => RowOf encInt 1 W Ao [1, 2] ∧ Blk W W3.heap.size 3 [.int .i64 1, .int .i64 2] ∧ Blk W w.heap.size 53 (awL.flatMap encEV) ∧ Below w.heap.size w W) ⟨by exact HR3.out.below (bl_alloc (Below.refl _ _) _), Blk.new _ _ _, HC3.out.alloc _, bl_alloc HB3.out _⟩ ?_
  rintro W4 ⟨hr4, hk4, hc4, hb4⟩
  have HC4 := Sh.mk hc4
  have HB4 := Sh.mk hb4
  have HS := Sh.mk (same_calls Ao (some ⟨W3.heap.size, 0, none⟩) co 2 [1, 2] [1, 2] W4 hr4 (Blk.rows (enc := encInt) (l := [1, 2]) (fun _ => rfl) (by exact hk4)) (by decide) (by decide))
  clear hr4 hk4 hc4 hb4 e0 e1 HR3 HC3 HB3
  refine HS.out.mono ?_
  rintro e W5 ⟨rfl, hb5⟩
  have HC5 := Sh.mk (HC4.out.below hb5)
  have HB5 := Sh.mk (below_trans HB4.out hb5)
  clear hb5 HS HC4 HB4
  go_wp2_with fail
  refine (HRE.out _ _ HC5.out).mono ?_
  rintro e W6 ⟨rfl, hb6⟩
  have HC6 := Sh.mk (HC5.out.below hb6)
  have HB6 := Sh.mk (below_trans HB5.out hb6)
  clear hb6 HRE HC5 HB5
  go_wp2_with fail
  refine (HST.out _ _ HC6.out).mono ?_
  rintro e W7 ⟨rfl, hb7⟩
  have HB7 := Sh.mk (below_trans HB6.out hb7)
  clear hb7 HST HC6 HB6
  go_wp2_with fail
  go_ret
  exact ⟨rfl, HB7.out⟩
end Go.Proofs.Ytapjjhdopelpjaa
