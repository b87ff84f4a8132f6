import Derived.Test.YtapjjhdopelpjaaDel
namespace Go.Proofs.Ytapjjhdopelpjaa
set_option linter.unusedVariables false
set_option linter.unusedSimpArgs false
open Go.RowKit Go.Maps Go.Proofs.K Go.Lib

def serP (s : List Int) (t : Int) (e : PR) : Bool := e.b == t && s.contains e.a
def blockedF (E : List PR) (s : List Int) (t : Int) : Bool := E.any (serP s t)
def serGo (E : List PR) : Nat → List Int → List Int → Option (List Int)
  | 0, _, out => some out
  | n + 1, s, out => match s.find? (fun t => !blockedF E s t) with
    | none => none
    | some y => serGo E n (dropS s y) (out ++ [y])
def serF (l : List EV) : Option (List Int) := if hRightF l = true then serGo (edgesF l) (thatF l 3).length (thatF l 3) [] else none
theorem dropS_len {s : List Int} {y : Int} (h : y ∈ s) : (dropS s y).length + 1 = s.length := by
  have hc : s.contains y = true := by simpa using h
  have h1 := List.countP_le_length (p := fun z => decide (z < y)) (l := s)
  have h2 : ¬ s.countP (fun z => decide (z < y)) = s.length := fun e => by
    have := List.countP_eq_length.1 e y h
    simp at this
  unfold dropS
  rw [if_pos hc, List.length_eraseIdx, if_pos (by omega)]
  omega

/-- What Serial's loop holds. -/
structure SR (w W : World) (be bl p : Nat) (ve vo : Value) (F : Nat → Prop) (E : List PR) (s out : List Int) : Prop where
  ce : Blk W be 27 [ve]
  cl : Blk W bl 55 [.pointer (some ⟨p, 0, none⟩)]
  oe : Own encP 43 2 W 0 ve E
  oo : Own encInt 3 1 W w.heap.size vo out
  st : IsSet W p F s
  lt : ∀ k, F k → k < W.heap.size
  ge : ∀ k, F k → w.heap.size ≤ k
  fe : ¬ F be
  fl : ¬ F bl
  fv : ∀ k, ve.ownBlock = some k → ¬ F k
  fo : ∀ k, vo.ownBlock = some k → ¬ F k
  bw : Below w.heap.size w W
section
variable {w W W1 : World} {be bl p : Nat} {ve vo : Value} {F : Nat → Prop} {E : List PR} {s out : List Int}
theorem SR.below (h : SR w W be bl p ve vo F E s out) (hb : Below W.heap.size W W1) : SR w W1 be bl p ve vo F E s out :=
  ⟨h.ce.below hb, h.cl.below hb, h.oe.below hb, h.oo.below hb, h.st.below hb, fun k hk => Nat.lt_of_lt_of_le (h.lt k hk) hb.size, h.ge, h.fe, h.fl, h.fv, h.fo, below_trans h.bw hb⟩
theorem SR.e0 (h : SR w W be bl p ve vo F E s out) : W.cell? ⟨be, 0, none⟩ = some ve := h.ce.cell 0
theorem SR.l0 (h : SR w W be bl p ve vo F E s out) : W.cell? ⟨bl, 0, none⟩ = some (.pointer (some ⟨p, 0, none⟩)) := h.cl.cell 0
theorem SR.drop {s' : List Int} (h : SR w W be bl p ve vo F E s out) (hs : IsSet W1 p (fun k => F k ∨ W.heap.size ≤ k) s') (hc : Chg F W W1) : SR w W1 be bl p ve vo (fun k => (F k ∨ W.heap.size ≤ k) ∧ k < W1.heap.size) E s' out := by
  have hz := h.bw.size
  have n1 : ∀ k, k < W.heap.size → ¬ F k → ¬ ((F k ∨ W.heap.size ≤ k) ∧ k < W1.heap.size) := fun k h1 h2 h3 => by
    rcases h3.1 with h4 | h4
    · exact h2 h4
    · omega
  exact ⟨h.ce.chg hc h.fe, h.cl.chg hc h.fl, h.oe.chg hc h.fv, h.oo.chg hc h.fo, hs.tight, fun k hk => hk.2, fun k hk => by
    rcases hk.1 with h4 | h4
    · exact h.ge k h4
    · omega, n1 _ h.ce.lt h.fe, n1 _ h.cl.lt h.fl, fun k hk => n1 k (h.oe.lt k hk).2 (h.fv k hk), fun k hk => n1 k (h.oo.lt k hk).2 (h.fo k hk), (Chg.trans (F := fun k => w.heap.size ≤ k) (Chg.of_below h.bw) hc (fun i _ e => h.ge i e)).below (fun i hi h => by omega)⟩
theorem SR.push {vo' : Value} {out' : List Int} (h : SR w W be bl p ve vo F E s out) (ho : Own encInt 3 1 W1 w.heap.size vo' out') (hc : Chg (fun k => some k = vo.ownBlock) W W1)
    (hg : ∃ g cap, vo' = .slice (some ⟨g, 0, none⟩) (out.length + 1) cap ∧ (vo.ownBlock = some g ∨ g = W.heap.size) ∧ g < W1.heap.size) : SR w W1 be bl p ve vo' F E s out' := by
  obtain ⟨g, cap, hv, hg1, hg2⟩ := hg
  refine ⟨h.ce.chg hc (fun e => own_ne h.oo h.ce (by decide) be e.symm rfl), h.cl.chg hc (fun e => own_ne h.oo h.cl (by decide) bl e.symm rfl), h.oe.chg hc (fun k hk e => own_own h.oe h.oo (by decide) k hk e.symm), ho, h.st.chg hc (fun k hk e => h.fo k e.symm hk), fun k hk => Nat.lt_of_lt_of_le (h.lt k hk) hc.size, h.ge, h.fe, h.fl, h.fv, fun k hk hF => ?_, push_below h.bw h.oo hc⟩
  rw [hv] at hk
  have hk2 : g = k := by simpa [Value.ownBlock] using hk
  subst hk2
  rcases hg1 with h1 | h1
  · exact h.fo g h1 hF
  · have := h.lt g hF
    omega
end

set_option maxHeartbeats 2000000 in
set_option maxRecDepth 100000 in
theorem ser11_calls (bt bl p : Nat) (F : Nat → Prop) (s : List Int) (t : Int) (w0 : World) (ht : w0.cell? ⟨bt, 0, none⟩ = some (.int .i64 t)) (hl0 : w0.cell? ⟨bl, 0, none⟩ = some (.pointer (some ⟨p, 0, none⟩))) (hs : IsSet w0 p F s) (hl : s.length ≤ 1000000) :
    PredB Try.prog 34 #[.pointer (some ⟨bt, 0, none⟩), .pointer (some ⟨bl, 0, none⟩)] aggP (serP s t) w0 := fun w x hb0 => by
  show Calls Try.prog 34 #[.agg #[.int .i64 x.a, .int .i64 x.b], .pointer (some ⟨bt, 0, none⟩), .pointer (some ⟨bl, 0, none⟩)] w fun e w' => e = .returned (.bool (serP s t x)) ∧ Below w.heap.size w w'
  have c1 := below_cell hb0 ht
  have c2 := below_cell hb0 hl0
  have n1 := cell_lt c1
  have n2 := cell_lt c2
  dsimp only at n1 n2
  have m1 : ¬ bt = w.heap.size := by omega
  have m2 : ¬ bl = w.heap.size := by omega
  have m3 : ¬ w.heap.size = bt := by omega
  have m4 : ¬ w.heap.size = bl := by omega
  have HS := Sh.mk (hs.below hb0)
  unfold serP
  by_cases h1 : x.b = t
  case neg =>
    have d1 : (x.b == t) = false := by simp [h1]
    rw [d1]
    clear ht hl0 hs hb0 h1
    go_enter Try.func34, Try.ntmps34
    go_wp2_with fail
    go_ret
    exact ⟨rfl, bl_alloc (Below.refl _ _) _⟩
  have d1 : (x.b == t) = true := by simp [h1]
  rw [d1]
  have HHAS := Sh.mk (fun W (h : Below w.heap.size w W) B (hb : Blk W B 3 [.int .i64 x.a]) => SHas_calls p F s (some ⟨B, 0, none⟩) 1 [x.a] W (HS.out.below h) (by exact Blk.row (enc := encInt) (x := x.a) (sz := 1) hb) (by omega) (by simp))
  rw [show [x.a].all s.contains = s.contains x.a by simp] at HHAS
  generalize s.contains x.a = q at HHAS
  clear ht hl0 hs hb0 h1
  go_enter Try.func34, Try.ntmps34
  go_wp2_with fail
  refine (HHAS.out _ (bl_alloc (bl_alloc (Below.refl _ _) _) _) (w.heap.size + 1) (by exact Blk.new' (by simp))).mono ?_
  rintro e w1 ⟨rfl, hb1⟩
  have HB := Sh.mk (below_trans (bl_alloc (bl_alloc (Below.refl _ _) (.cells #[.int .i64 x.a, .int .i64 x.b] 43)) (.cells #[.int .i64 x.a] 3)) hb1)
  clear hb1 HHAS
  go_wp2_with fail
  go_ret
  exact ⟨by simp, HB.out⟩

set_option maxHeartbeats 2000000 in
set_option maxRecDepth 100000 in
theorem ser1_calls {w W : World} {be bl p : Nat} {ve vo : Value} {F : Nat → Prop} {E : List PR} {s out : List Int} (h : SR w W be bl p ve vo F E s out) (t : Int) (hE : E.length ≤ 1000000000) (hl : s.length ≤ 1000000) :
    Calls Try.prog 32 #[.int .i64 t, .pointer (some ⟨be, 0, none⟩), .pointer (some ⟨bl, 0, none⟩)] W fun e w' => e = .returned (.bool (blockedF E s t)) ∧ Below W.heap.size W w' := by
  have eg1 : ∀ args w, (callFunc 34 args).run Try.prog w = .ok (.enter 34 args) w := Go.Proofs.enters_of Try.func34 (by kernel_rfl) rfl
  have hb0 : Below W.heap.size W (W.alloc (.cells #[.int .i64 t] 3)) := bl_alloc (Below.refl _ _) _
  have hA := h.below hb0
  obtain ⟨A, c, hv, -, -, hr⟩ := hA.oe.reads (fun _ => rfl)
  have HC := Sh.mk (contains_edge_calls 34 #[.pointer (some ⟨W.heap.size, 0, none⟩), .pointer (some ⟨bl, 0, none⟩)] eg1 (serP s t) A c E _ hr (by omega) (ser11_calls W.heap.size bl p F s t _ (by simp) hA.l0 hA.st hl))
  have c0 := h.e0
  rw [hv] at c0
  have n1 := h.ce.lt
  have m1 : ¬ be = W.heap.size := by omega
  have m3 : ¬ W.heap.size = be := by omega
  unfold blockedF
  generalize E.any (serP s t) = q at HC
  have HB0 := Sh.mk hb0
  clear hA hr h hb0 hv
  go_enter Try.func32, Try.ntmps32
  go_wp2_with fail
  refine HC.out.mono ?_
  rintro e w1 ⟨rfl, hb1⟩
  have HB := Sh.mk (below_trans HB0.out hb1)
  clear hb1 HC HB0
  go_wp2_with fail
  go_ret
  exact ⟨rfl, HB.out⟩
def lenOf : Value → Nat
  | .slice _ n _ => n
  | _ => 0

set_option maxHeartbeats 8000000 in
set_option maxRecDepth 100000 in
theorem serial_calls (A : Option Addr) (c : Nat) (l : List EV) (w : World) (hr : RowOf encEV 3 w A l) (hl : l.length ≤ 1000) (hlc : l.length ≤ c) (hcm : c ≤ maxLen) :
    Calls Try.prog 10 #[.slice A l.length c] w fun e w' => ∃ v, e = .returned (.tuple #[v, .bool (serF l).isSome]) ∧ Own encInt 3 1 w' w.heap.size v ((serF l).getD []) ∧ Below w.heap.size w w' := by
  have eg1 : ∀ args w, (callFunc 32 args).run Try.prog w = .ok (.enter 32 args) w := Go.Proofs.enters_of Try.func32 (by kernel_rfl) rfl
  have HR := Sh.mk hr
  have HRT := Sh.mk (hright_calls A c l w hr (by omega))
  have HTH := Sh.mk (fun W (h : Below w.heap.size w W) => that_calls A c l 3 W (hr.below h) (by omega))
  have HED := Sh.mk (fun W (h : Below w.heap.size w W) => edges_calls A c l W (hr.below h) hl hlc hcm)
  have hG : serF l = if hRightF l = true then serGo (edgesF l) (thatF l 3).length (thatF l 3) [] else none := rfl
  have HTL := Sh.mk (thatF_len l 3)
  have HEL := Sh.mk (show (edgesF l).length ≤ 1000000 from by
    have h1 := edgesF_len l
    have h2 := Nat.mul_le_mul hl hl
    omega)
  generalize serF l = R at hG
  generalize hRightF l = rt at HRT hG
  generalize thatF l 3 = s0 at HTH hG HTL
  generalize edgesF l = E at HED hG HEL
  have HG := Sh.mk hG
  clear hr hG
  go_enter Try.func10, Try.ntmps10
  go_wp2_with fail
  refine HRT.out.mono ?_
  rintro e W0 ⟨rfl, hb0⟩
  have HB0 := Sh.mk hb0
  clear hb0 HRT
  cases rt
  · go_wp2_with fail
    go_ret2
    refine ⟨_, by rw [HG.out]; rfl, ?_, HB0.out⟩
    rw [HG.out]
    exact Own.nil _ _ _ _ _
  have HG2 := Sh.mk (show R = serGo E s0.length s0 [] by rw [HG.out, if_pos rfl])
  clear HG
  go_wp2_with fail
  refine (HED.out _ HB0.out).mono ?_
  rintro e W1 ⟨ve, rfl, hO1, hb1⟩
  obtain ⟨Ae, ce, hve, -, -, -⟩ := hO1.reads (fun _ => rfl)
  subst hve
  have HB1 := Sh.mk (below_trans HB0.out hb1)
  have HO1 := Sh.mk hO1
  clear hO1 hb1 HED
  go_wp2_with fail
  refine calls_gen (fun W => Below w.heap.size w W ∧ Own encP 43 2 W 0 (.slice Ae E.length ce) E ∧ Blk W W1.heap.size 27 [.slice Ae E.length ce]) ⟨bl_alloc HB1.out _, (HO1.out.lower (Nat.zero_le _)).alloc _, Blk.new _ _ _⟩ ?_
  rintro W2 ⟨hb2, ho2, hc2⟩
  have HB2 := Sh.mk hb2
  have HO2 := Sh.mk ho2
  have HC2 := Sh.mk hc2
  generalize W1.heap.size = be at HC2
  clear hb2 ho2 hc2 HB1 HO1
  refine (HTH.out _ HB2.out).mono ?_
  rintro e W3 ⟨p, rfl, hS3, hb3⟩
  have HT := Sh.mk (show SR w (W3.alloc (.cells #[.pointer (some ⟨p, 0, none⟩)] 55)) be W3.heap.size p (.slice Ae E.length ce) (.slice none 0 0) (fun k => W2.heap.size ≤ k ∧ k < W3.heap.size) E s0 [] from by
    have hz := HB2.out.size
    exact ⟨(HC2.out.below hb3).alloc _, Blk.new _ _ _, (HO2.out.below hb3).alloc _, Own.nil _ _ _ _ _, hS3.tight.below (bl_alloc (Below.refl _ _) _), fun k hk => by have := hk.2; simp; omega, fun k hk => by have := hk.1; omega, fun h => by have := HC2.out.lt; omega, fun h => by omega,
      fun k hk h => by have := (HO2.out.lt k hk).2; omega, fun k hk => by simp [Value.ownBlock] at hk, bl_alloc (below_trans HB2.out hb3) _⟩)
  clear hS3 hb3 HTH HB2 HO2 HC2
  go_wp2_with fail
  refine wp_gen (fun W => SR w W be W3.heap.size p (.slice Ae E.length ce) (.slice none 0 0) (fun k => W2.heap.size ≤ k ∧ k < W3.heap.size) E s0 []) HT.out ?_
  intro W4 hT
  have HT2 := Sh.mk (show ∃ F, SR w W4 be W3.heap.size p (.slice Ae E.length ce) (.slice none 0 0) F E s0 [] from ⟨_, hT⟩)
  clear hT HT
  generalize W3.heap.size = bl at HT2
  clear W3
  go_loopw [6] (fun o wr => ∃ (s out : List Int), s.length + out.length = s0.length ∧ lenOf o = out.length ∧ Sh (R = serGo E s.length s out) ∧ Sh (∃ F, SR w wr be bl p (.slice Ae E.length ce) o F E s out)) (fun o _ => s0.length - lenOf o)
  case atStart => exact ⟨s0, [], by simp, rfl, HG2, HT2⟩
  case round =>
    clear HG2 HT2 HB0
    obtain ⟨s, out, hsl, hlo, HP, HT⟩ := hrel
    obtain ⟨F, hT⟩ := HT.out
    have l0 := hT.l0
    have hs0 : s.length ≤ 1000 := by have := HTL.out; omega
    have HT := Sh.mk hT
    clear hT
    by_cases hse : s.length = 0
    · have d1 : decide (0 < s.length) = false := decide_eq_false (by omega)
      go_wp2_with fail
      refine (SLen_calls p F s _ HT.out.st).mono ?_
      rintro e _ ⟨rfl, rfl⟩
      have HP2 := Sh.mk (show R = some out by rw [HP.out, hse]; rfl)
      clear hse hsl hlo l0
      go_wp2_with fail
      go_ret2
      exact ⟨_, by rw [HP2.out]; rfl, by rw [HP2.out]; exact HT.out.oo, HT.out.bw⟩
    have d1 : decide (0 < s.length) = true := decide_eq_true (by omega)
    go_wp2_with fail
    refine (SLen_calls p F s _ HT.out.st).mono ?_
    rintro e _ ⟨rfl, rfl⟩
    have HSE := Sh.mk hse
    clear hse
    go_wp2_with fail
    refine (SList_calls p F s _ HT.out.st (by omega)).mono ?_
    rintro e w1 ⟨vl, rfl, hol, hbl⟩
    have HD := Sh.mk (del_func 32 #[.pointer (some ⟨be, 0, none⟩), .pointer (some ⟨bl, 0, none⟩)] eg1 (blockedF E s) w1 hol (by omega) (fun W x hc => ser1_calls (HT.out.below ((Chg.trans (F := fun k => wr.heap.size ≤ k) (Chg.of_below hbl) hc (fun i _ e => (hol.lt i e.symm).1)).below (fun i hi h => by omega))) x (by have := HEL.out; omega) (by omega)))
    have HBL := Sh.mk (fun W (hc : Chg (fun k => some k = vl.ownBlock) w1 W) => (Chg.trans (F := fun k => wr.heap.size ≤ k) (Chg.of_below hbl) hc (fun i _ e => (hol.lt i e.symm).1)).below (fun i hi h => by omega))
    clear hol hbl l0
    go_wp2_with fail
    refine HD.out.mono ?_
    rintro e w2 ⟨vf, rfl, hof, hcf⟩
    have HT2 := Sh.mk (HT.out.below (HBL.out _ hcf))
    have HF := Sh.mk (show (s.filter fun x => !blockedF E s x).head? = s.find? (fun x => !blockedF E s x) from List.head?_filter ..)
    have HMF := Sh.mk (fun y (hy : y ∈ s.filter fun x => !blockedF E s x) => (List.mem_filter.1 hy).1)
    obtain ⟨Af, cf, hvf, -, -, hrf⟩ := hof.reads (fun _ => rfl)
    subst hvf
    generalize (s.filter fun x => !blockedF E s x) = fr at hof hrf HF HMF
    have HRF := Sh.mk hrf
    have HVL := Sh.mk (fun k hk => hof.lt k hk)
    have HLT := Sh.mk HT.out.lt
    clear hcf hof hrf HD HBL HT
    cases fr with
    | nil =>
      have HP2 := Sh.mk (show R = none by
        have h1 : s.find? (fun x => !blockedF E s x) = none := HF.out.symm
        rw [HP.out]
        obtain ⟨n, hn⟩ : ∃ n, s.length = n + 1 := ⟨s.length - 1, by have := HSE.out; omega⟩
        rw [hn, serGo, h1])
      go_wp2_with fail
      go_ret2
      exact ⟨_, by rw [HP2.out]; rfl, by rw [HP2.out]; exact Own.nil _ _ _ _ _, HT2.out.bw⟩
    | cons y fr =>
      have HYM := Sh.mk (HMF.out y (List.mem_cons_self ..))
      have HP2 := Sh.mk (show R = serGo E (dropS s y).length (dropS s y) (out ++ [y]) by
        have h1 : s.find? (fun x => !blockedF E s x) = some y := HF.out.symm
        have h2 := dropS_len HYM.out
        rw [HP.out, ← h2, serGo, h1])
      have HDL := Sh.mk (dropS_len HYM.out)
      obtain ⟨b, off, hAe, hc⟩ := HRF.out 0 (by simp)
      subst hAe
      have HVB := Sh.mk (show ¬ F b from fun hF => by have h1 := (HVL.out b rfl).1; have h2 := HLT.out b hF; omega)
      have c0 : w2.cell? ⟨b, off, none⟩ = some (.int .i64 y) := by
        have := hc 0 _ rfl
        simpa using this
      have HC0 := Sh.mk c0
      clear hc HMF HF HSE HP
      have dl : ((fr.length + 1 : Nat) == 0) = false := by simp
      rw [List.length_cons]
      have dm : (((fr.length + 1 : Nat) : Int) == 0) = false := by
        have : ¬ ((fr.length + 1 : Nat) : Int) = 0 := by omega
        simpa using this
      have dn : ((0 : Int) < ((fr.length + 1 : Nat) : Int)) := by omega
      go_wp2_with fail
      refine wp_region_noPanic ?_
      refine wpN_begin 5 (fun W => SR w W be bl p (.slice Ae E.length ce) u6 F E s out ∧ W.cell? ⟨b, off, none⟩ = some (.int .i64 y)) (by kernel_rfl) ?_
      have hS : (fun W => SR w W be bl p (.slice Ae E.length ce) u6 F E s out ∧ W.cell? ⟨b, off, none⟩ = some (.int .i64 y)) w2.drew := ⟨HT2.out.below (bl_drew (Below.refl _ _)), HC0.out⟩
      refine wpN_take (i := 0) (v := ?_) rfl rfl (by kernel_rfl) (by kernel_rfl) (by kernel_rfl) (by kernel_rfl) (fun _ _ _ h => h) (Or.inl ⟨by kernel_rfl, ?hy⟩) hS ?_
      case hy =>
        intro W hW
        have y := hW.1.l0
        go_simp
        try with_reducible rfl
      (try simp only [Act.put]); (try simp only [List.setIfInBounds_toArray]); (try simp only [List.set_cons_succ]); (try simp only [List.set_cons_zero])
      refine wpN_only (i := 1) rfl (by kernel_rfl) (fun K hK => ?_)
      go_simp
      refine goto hK hS ?_
      clear hS hK K
      intro hS
      (try simp only [Act.put]); (try simp only [List.setIfInBounds_toArray]); (try simp only [List.set_cons_succ]); (try simp only [List.set_cons_zero])
      refine wpN_only (i := 2) rfl (by kernel_rfl) (fun K hK => ?_)
      go_simp
      refine goto hK hS ?_
      clear hS hK K
      intro hS
      (try simp only [Act.put]); (try simp only [List.setIfInBounds_toArray]); (try simp only [List.set_cons_succ]); (try simp only [List.set_cons_zero])
      refine wpN_only (i := 3) rfl (by kernel_rfl) (fun K hK => ?_)
      have yc := hS.2
      go_simp
      refine goto hK hS ?_
      clear hS hK K
      intro hS
      (try simp only [Act.put]); (try simp only [List.setIfInBounds_toArray]); (try simp only [List.set_cons_succ]); (try simp only [List.set_cons_zero])
      refine wpN_only (i := 4) rfl (by kernel_rfl) (fun K hK => ?_)
      go_simp
      refine goto hK ⟨hS.1.below (bl_alloc (Below.refl _ _) _), below_cell (bl_alloc (Below.refl _ _) _) hS.2⟩ ?_
      clear hS hK K
      intro hS
      (try simp only [Act.put]); (try simp only [List.setIfInBounds_toArray]); (try simp only [List.set_cons_succ]); (try simp only [List.set_cons_zero])
      refine wpN_only (i := 5) rfl (by kernel_rfl) (fun K hK => ?_)
      go_simp
      go_at_call 35
      refine (SDrop_calls p F s (some ⟨w2.heap.size, 0, none⟩) 1 [y] _ hS.1.st (by exact Blk.row (enc := encInt) (x := y) (sz := 1) (Blk.new w2 _ _)) (fun a ha hF => by injection ha with ha; subst ha; have := HT2.out.lt _ hF; dsimp only at this; omega) (by omega) (by simp)).mono ?_
      rintro e w' ⟨n3, rfl, hs3, hc3⟩
      have HT3 := Sh.mk (show ∃ F, SR w w' be bl p (.slice Ae E.length ce) u6 F E (dropS s y) out from ⟨_, hS.1.drop hs3 hc3⟩)
      have HC3 := Sh.mk (hc3.cell_of hS.2 HVB.out)
      clear hs3 hc3
      refine hK.out _ _ (.inl rfl) ?_
      clear hK K
      refine wpN_done (by kernel_rfl) ?_ _
      refine NoPanic.normal ?_
      refine then_gen (fun W => (∃ F, SR w W be bl p (.slice Ae E.length ce) u6 F E (dropS s y) out) ∧ W.cell? ⟨b, off, none⟩ = some (.int .i64 y)) ⟨HT3.out, HC3.out⟩ ?_
      rintro w3 ⟨⟨F3, hT3⟩, c3⟩
      clear HT3 HC3
      have HT3 := Sh.mk hT3
      clear hS hT3 HT2 HC0 c0
      go_wp2_with (at_builtin; refine Sh.out ?_)
      refine ⟨?_⟩
      refine wpl_push E_int rfl _ _ rfl w.heap.size _ out y w3.heap.size rfl rfl (HT3.out.oo.alloc _) (by exact Blk.new w3 _ _) (by have := HTL.out; omega) (by have := HTL.out; unfold maxLen; omega) (by have := HT3.out.bw.size; simp; omega) ?_
      intro v10 w10 ho hch hg10
      have HT10 := Sh.mk ((HT3.out.below (bl_alloc (Below.refl _ _) _)).push ho hch hg10)
      obtain ⟨g10, cap10, hv10, -, -⟩ := hg10
      subst hv10
      clear ho hch HT3 c3
      go_wp2_with fail
      go_roundw
      case rel => exact ⟨dropS s y, out ++ [y], by have := HDL.out; simp; omega, by simp [lenOf], HP2, ⟨_, HT10.out⟩⟩
      case measure =>
        rw [hlo]
        simp only [lenOf]
        have := HDL.out
        omega
end Go.Proofs.Ytapjjhdopelpjaa
