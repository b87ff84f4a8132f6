import Derived.Test.YtapjjhdopelpjaaOrd
import Derived.Lib.SlicesCompact
import Derived.Lib.SliceRun
namespace Go.Proofs.Ytapjjhdopelpjaa
set_option linter.unusedVariables false
set_option linter.unusedSimpArgs false
open Go.RowKit Go.Maps Go.Proofs.K Go.Lib

theorem own_blk {w : World} {base g n cap e sz : Nat} {α : Type} {enc : α → List Value} {l : List α} (h : Own enc e sz w base (.slice (some ⟨g, 0, none⟩) n cap) l) :
    ∃ cs, Blk w g e cs ∧ n = l.length ∧ base ≤ g ∧ n ≤ cap ∧ cap ≤ maxLen ∧ cs.length = cap * sz ∧ cs.take (n * sz) = l.flatMap enc ∧ (l.flatMap enc).length = n * sz := by
  rcases h.2 with ⟨h0, _⟩ | ⟨g', cap', cur, h0, hg, hh, hn, hc, hs, ht⟩
  · cases h0
  · injection h0 with h1 h2 h3
    injection h1 with h1
    injection h1 with h1
    subst h1 h2 h3
    exact ⟨cur.toList, hh, rfl, hg, hn, hc, by simpa using hs, ht, h.1⟩
theorem blk_own {w : World} {base g n cap e sz : Nat} {α : Type} {enc : α → List Value} {l : List α} {cs : List Value} (hb : Blk w g e cs) (hn : n = l.length) (hg : base ≤ g) (hc : n ≤ cap) (hm : cap ≤ maxLen) (hs : cs.length = cap * sz) (ht : cs.take (n * sz) = l.flatMap enc) (hf : (l.flatMap enc).length = n * sz) :
    Own enc e sz w base (.slice (some ⟨g, 0, none⟩) n cap) l := by
  subst hn
  exact ⟨hf, .inr ⟨g, cap, cs.toArray, rfl, hg, hb, hc, hm, by simpa using hs, by simpa using ht⟩⟩
theorem flat_set (x : PR) : ∀ (l : List PR) (k : Nat), (l.set k x).flatMap encP = ((l.flatMap encP).set (k * 2) (.int .i64 x.a)).set (k * 2 + 1) (.int .i64 x.b)
  | [], k => by simp
  | y :: l, 0 => by simp [encP]
  | y :: l, k + 1 => by
    rw [List.set_cons_succ, List.flatMap_cons, flat_set x l k, List.flatMap_cons]
    simp [encP, show (k + 1) * 2 = k * 2 + 1 + 1 by omega]
theorem own_setP {w : World} {base g n cap e : Nat} {l : List PR} (h : Own encP e 2 w base (.slice (some ⟨g, 0, none⟩) n cap) l) (k : Nat) (x : PR) :
    Own encP e 2 ((w.setCell ⟨g, k * 2, none⟩ (.int .i64 x.a)).setCell ⟨g, k * 2 + 1, none⟩ (.int .i64 x.b)) base (.slice (some ⟨g, 0, none⟩) n cap) (l.set k x) := by
  obtain ⟨cs, hb, hn, hg, hc, hm, hs, ht, hf⟩ := own_blk h
  refine blk_own ((hb.set _ _).set _ _) (by simp [hn]) hg hc hm (by simp [hs]) ?_ ?_
  · rw [List.take_set, List.take_set, ht, flat_set]
  · rw [flat_set]; simp [hf]
theorem own_cut {w : World} {base g n cap e : Nat} {l : List PR} (h : Own encP e 2 w base (.slice (some ⟨g, 0, none⟩) n cap) l) (k : Nat) (hk : k ≤ n) :
    Own encP e 2 w base (.slice (some ⟨g, 0, none⟩) k cap) (l.take k) := by
  obtain ⟨cs, hb, hn, hg, hc, hm, hs, ht, hf⟩ := own_blk h
  have hlen : ∀ m : List PR, (m.flatMap encP).length = m.length * 2 := fun m => by
    induction m with
    | nil => rfl
    | cons y r ih => simp only [List.flatMap_cons, List.length_append, ih, encP, List.length_cons, List.length_nil]; omega
  have e : (l.take k).flatMap encP = (l.flatMap encP).take (k * 2) := by
    have h1 : l.flatMap encP = (l.take k).flatMap encP ++ (l.drop k).flatMap encP := by rw [← List.flatMap_append, List.take_append_drop]
    have h2 : ((l.take k).flatMap encP).length = k * 2 := by rw [hlen, List.length_take]; omega
    rw [h1]
    exact (List.take_left' h2).symm
  refine blk_own hb (by rw [List.length_take]; omega) hg (by omega) hm hs ?_ ?_
  · rw [e, ← ht, List.take_take]; congr 1; omega
  · rw [hlen, List.length_take]; omega
theorem own_out {base g n cap e : Nat} {l : List PR} : ∀ (vs : List Value) (o : Nat) (w : World), n * 2 ≤ o → Own encP e 2 w base (.slice (some ⟨g, 0, none⟩) n cap) l → Own encP e 2 (w.setCells g o vs) base (.slice (some ⟨g, 0, none⟩) n cap) l
  | [], _, _, _, h => h
  | v :: r, o, w, ho, h => by
    rw [World.setCells]
    refine own_out r (o + 1) _ (by omega) ?_
    obtain ⟨cs, hb, hn, hg, hc, hm, hs, ht, hf⟩ := own_blk h
    refine blk_own (hb.set _ _) hn hg hc hm (by simp [hs]) ?_ hf
    rw [List.take_set_of_le ho, ht]
theorem own_at {w : World} {base g n cap e : Nat} {l : List PR} (h : Own encP e 2 w base (.slice (some ⟨g, 0, none⟩) n cap) l) (k : Nat) (hk : k < l.length) :
    w.cell? ⟨g, k * 2, none⟩ = some (.int .i64 l[k].a) ∧ w.cell? ⟨g, k * 2 + 1, none⟩ = some (.int .i64 l[k].b) := by
  have hr := (own_row h (fun _ => rfl)).1
  obtain ⟨b, off, e, hcc⟩ := hr k hk
  injection e with e
  injection e with e1 e2
  subst e1 e2
  have h0 := hcc 0 _ rfl
  have h1 := hcc 1 _ rfl
  simp only [Nat.zero_add] at h0 h1
  exact ⟨h0, h1⟩

theorem own_clear {w : World} {base g n cap : Nat} {l : List PR} (h : Own encP 43 2 w base (.slice (some ⟨g, 0, none⟩) n cap) l) (k : Nat) (hk : k < n) :
    ∃ vs : List Value, ∀ ty, (Builtin.clear_ #[27] ty #[.slice (some ⟨g, k * 2, none⟩) (n - k) (cap - k)]).run Try.prog w = .ok (.tuple #[]) (w.setCells g (k * 2) vs) := by
  obtain ⟨cs, hb, hn, hg, hc, hm, hs, ht, hf⟩ := own_blk h
  refine ⟨(Builtin.zeroCells (Value.agg #[.int .i64 0, .int .i64 0]).cells (n - k)).toList, fun ty => ?_⟩
  have hz : (Builtin.zeroCells (Value.agg #[.int .i64 0, .int .i64 0]).cells (n - k)).toList.length = (n - k) * 2 := by
    simp [Builtin.zeroCells, Value.cells]
  have h1 : ∀ v ∈ (Builtin.zeroCells (Value.agg #[.int .i64 0, .int .i64 0]).cells (n - k)).toList, v.oneCell' = true := by
    intro v hv
    simp only [Builtin.zeroCells, Value.cells, Array.toList_map, List.mem_map] at hv
    obtain ⟨i, _, rfl⟩ := hv
    have : i % 2 = 0 ∨ i % 2 = 1 := by omega
    show (#[Value.int .i64 0, Value.int .i64 0][i % 2]!).oneCell' = true
    rcases this with e | e <;> rw [e] <;> rfl
  have hcell : ∀ j, j < (n - k) * 2 → (w.cell? ⟨g, k * 2 + 0 + j, none⟩).isSome = true := fun j hj => by
    rw [hb.cell, List.getElem?_eq_getElem (by rw [hs]; omega)]
    rfl
  have hst := run_storeCells_cells (P := Try.prog) g (k * 2) _ 0 w (by rw [hz]; exact hcell) (fun j _ => hb.frozen _) h1
  rw [Nat.add_zero] at hst
  obtain ⟨m, hm2⟩ : ∃ m, n - k = m + 1 := ⟨n - k - 1, by omega⟩
  rw [hm2] at hst ⊢
  simp only [Builtin.clear_, Sem.run_bind, run_underlying Try.underlying27, Result.andThen_ok, Try.zeroValue43]
  simp [hst]

instance : Inhabited PR := ⟨⟨0, 0⟩⟩
set_option maxHeartbeats 8000000 in
set_option maxRecDepth 100000 in
theorem compact_own {base : Nat} {v : Value} {l : List PR} (w : World) (h : Own encP 43 2 w base v l) (hl : l.length ≤ 1000000000) :
    Calls Try.prog 27 #[v] w fun e w' => ∃ v', e = .returned v' ∧ Own encP 43 2 w' base v' (Lib.compact l) ∧ v'.ownBlock = v.ownBlock ∧ Chg (fun k => some k = v.ownBlock) w w' := by
  obtain ⟨A, c, hv, hlc, hcm, hr⟩ := h.reads (fun _ => rfl)
  have hm : l.length ≤ 9223372036854775807 := by omega
  by_cases h2 : l.length < 2
  · have hcmp : Lib.compact l = l := Lib.compact_all l (fun j hj => Lib.keeps_lt_one _ j (by omega))
    subst hv
    have HH := Sh.mk h
    have d : decide ((l.length : Int) < 2) = true := by simp; omega
    clear h hr
    go_enter Try.func27, Try.ntmps27
    go_wp2_with fail
    go_ret
    exact ⟨_, rfl, by rw [hcmp]; exact HH.out, rfl, Chg.refl _ _⟩
  rcases h.2 with ⟨rfl, h0⟩ | ⟨g, cap, cur, rfl, hg, hh, hn, hc, hs, ht⟩
  · omega
  clear hv hr hlc hcm A c
  have HO := Sh.mk h
  have hgl := (Array.getElem?_eq_some_iff.1 hh).1
  have d : decide ((l.length : Int) < 2) = false := by simp; omega
  have HALL := Sh.mk (fun (hall : ∀ j, j < l.length → keeps l.toArray j = true) => Lib.compact_all l hall)
  have HCO : Sh (Lib.compact l = compactUpTo l.toArray l.length) := ⟨rfl⟩
  generalize Lib.compact l = R at HALL HCO
  clear h hh ht hs
  go_enter Try.func27, Try.ntmps27
  go_wp2_with fail
  go_loopw [3] (fun i wr => ∃ k : Nat, 1 ≤ k ∧ k ≤ l.length ∧ i = .int .i64 k ∧ Sh (∀ j, j < k → keeps l.toArray j = true) ∧ Sh (Below w.heap.size w wr)) (fun i _ => l.length - (intOf i).toNat)
  case atStart => exact ⟨1, Nat.le_refl _, by omega, rfl, ⟨Lib.keeps_lt_one _⟩, ⟨Below.refl _ _⟩⟩
  case round =>
    obtain ⟨wo, rfl⟩ : ∃ wo, wo = wr := ⟨_, rfl⟩
    obtain ⟨k, hk1, hk, rfl, HK, HB⟩ := hrel
    by_cases hlt : k < l.length
    case neg =>
      obtain rfl : k = l.length := by omega
      go_wp2_with fail
      go_ret
      exact ⟨_, rfl, by rw [HALL.out HK.out]; exact HO.out.below HB.out, rfl, Chg.of_below HB.out⟩
    obtain ⟨m, rfl⟩ : ∃ m, k = m + 1 := ⟨k - 1, by omega⟩
    obtain ⟨x, hx⟩ : ∃ x, x = l[m + 1] := ⟨_, rfl⟩
    obtain ⟨y, hy⟩ : ∃ y, y = l[m] := ⟨_, rfl⟩
    obtain ⟨x0, x1⟩ := own_at (HO.out.below HB.out) (m + 1) hlt
    obtain ⟨y0, y1⟩ := own_at (HO.out.below HB.out) m (by omega)
    rw [← hx] at x0 x1
    rw [← hy] at y0 y1
    have HX := Sh.mk (And.intro hx hy)
    have e1 : ((m + 1 : Nat) : Int) - 1 = (m : Int) := by omega
    clear hx hy
    by_cases hab : x.a = y.a
    case neg =>
      have d1 : (x.a == y.a) = false := by simp [hab]
      have HKN := Sh.mk (show keeps l.toArray (m + 1) = true from keeps_pos (by
        have ex : l.toArray[m + 1]! = x := by rw [HX.out.1]; simp [hlt]
        have ey : l.toArray[m]! = y := by rw [HX.out.2]; simp [show m < l.length by omega]
        rw [Nat.add_sub_cancel, ex, ey]
        exact fun e => hab (congrArg PR.a e)))
      clear hab
      go_wp2_with fail
      go_quiet (fail)
      go_wp2_with fail
      go_roundw
      case rel =>
        refine ⟨m + 2, by omega, by omega, by go_num, ⟨fun j hj => ?_⟩, ⟨bl_drewN HB.out _⟩⟩
        by_cases e : j = m + 1
        · subst e; exact HKN.out
        · exact HK.out j (by omega)
      case measure => simp [intOf]; omega
    have d1 : (x.a == y.a) = true := by simp [hab]
    have hab1 := hab
    clear hab
    by_cases hab : x.b = y.b
    case neg =>
      have d2 : (x.b == y.b) = false := by simp [hab]
      clear hab1
      have HKN := Sh.mk (show keeps l.toArray (m + 1) = true from keeps_pos (by
        have ex : l.toArray[m + 1]! = x := by rw [HX.out.1]; simp [hlt]
        have ey : l.toArray[m]! = y := by rw [HX.out.2]; simp [show m < l.length by omega]
        rw [Nat.add_sub_cancel, ex, ey]
        exact fun e => hab (congrArg PR.b e)))
      clear hab
      go_wp2_with fail
      go_quiet (fail)
      go_wp2_with fail
      go_roundw
      case rel =>
        refine ⟨m + 2, by omega, by omega, by go_num, ⟨fun j hj => ?_⟩, ⟨bl_drewN HB.out _⟩⟩
        by_cases e : j = m + 1
        · subst e; exact HKN.out
        · exact HK.out j (by omega)
      case measure => simp [intOf]; omega
    have d2 : (x.b == y.b) = true := by simp [hab]
    have HKN := Sh.mk (show keeps l.toArray (m + 1) = false from keeps_neg (by omega) (by
      have ex : l.toArray[m + 1]! = x := by rw [HX.out.1]; simp [hlt]
      have ey : l.toArray[m]! = y := by rw [HX.out.2]; simp [show m < l.length by omega]
      rw [Nat.add_sub_cancel, ex, ey]
      obtain ⟨a, b⟩ := x
      obtain ⟨a', b'⟩ := y
      simp_all))
    clear hab hab1
    have hmc : m + 1 < cap := by omega
    have hmc2 : ¬ cap = m + 1 := by omega
    go_wp2_with fail
    go_quiet (fail)
    refine then_gen (fun W => Below w.heap.size w W) (bl_drewN HB.out _) ?_
    intro W1 hb1
    have HB1 := Sh.mk hb1
    clear hb1 HB x0 x1 y0 y1 d1 d2
    go_wp2_with fail
    go_loopw [3, 5] (fun i3 i5 wr => ∃ (kk t : Nat) (dk : Array PR), i3 = .int .i64 kk ∧ i5 = .int .i64 (t + 1 : Nat) ∧ 1 ≤ kk ∧ m + 1 + (t + 1) ≤ l.length ∧ Sh (Own encP 43 2 wr base (.slice (some ⟨g, 0, none⟩) l.length cap) dk.toList) ∧ Sh (Chg (fun j => j = g) w wr) ∧ Sh (CompInv l.toArray (m + 1 + (t + 1)) kk dk)) (fun _ i _ => l.length - (intOf i).toNat)
    case atStart => exact ⟨m + 1, 0, l.toArray, rfl, rfl, by omega, by omega, ⟨HO.out.below HB1.out⟩, ⟨Chg.of_below HB1.out⟩, ⟨CompInv.start HK.out HKN.out⟩⟩
    case round =>
      clear HB1
      obtain ⟨kk, t, dk, rfl, rfl, hkk1, htl, HO2, HC2, HI⟩ := hrel
      have hkl := HI.out.lt
      have hds : dk.size = l.length := by simpa using HI.out.size
      have hlc2 : l.length - (m + 1) ≤ 1000000000 := by omega
      by_cases hjl : m + 1 + (t + 1) < l.length
      case neg =>
        have hend : l.length - (m + 1) = t + 1 := by omega
        have hkc : kk < cap := by omega
        have hkc2 : ¬ cap = kk := by omega
        have hkn : kk ≤ l.length := by omega
        obtain ⟨vs, hcl⟩ := own_clear HO2.out kk (by omega)
        have HF := Sh.mk (show Own encP 43 2 (wr.setCells g (kk * 2) vs) base (.slice (some ⟨g, 0, none⟩) kk cap) R from by
          have h1 := own_out vs (kk * 2) _ (Nat.le_refl _) (own_cut HO2.out kk hkn)
          have e : dk.toList.take kk = R := by
            have hI := HI.out
            rw [show m + 1 + (t + 1) = l.length by omega] at hI
            rw [HCO.out]
            apply List.ext_getElem?
            intro j
            by_cases hj : j < kk
            · rw [hI.low j hj, List.getElem?_take_of_lt hj, Array.getElem?_toList, getElem!_pos dk j (by omega), Array.getElem?_eq_getElem]
            · rw [List.getElem?_eq_none (by rw [List.length_take]; omega), List.getElem?_eq_none (by rw [hI.len]; omega)]
          rw [e] at h1
          exact h1)
        have HCF := Sh.mk (HC2.out.trans (chg_setCells wr g (kk * 2) vs (Nat.lt_of_lt_of_le hgl HC2.out.size)) (fun _ _ h => h))
        clear HO2 HI
        go_wp2_with fail
        go_ret
        exact ⟨_, rfl, HF.out, rfl, HCF.out.mono (fun k _ e => by rw [e]; rfl)⟩
      obtain ⟨u, hu⟩ : ∃ u, u = l[m + 1 + (t + 1)] := ⟨_, rfl⟩
      obtain ⟨v, hv⟩ : ∃ v, v = l[m + 1 + t] := ⟨_, rfl⟩
      have hg2 := HI.out.high (m + 1 + (t + 1)) (by omega)
      have hg1 := HI.out.high (m + 1 + t) (by omega)
      obtain ⟨x0, x1⟩ := own_at HO2.out (m + 1 + (t + 1)) (by simp [hds]; omega)
      obtain ⟨y0, y1⟩ := own_at HO2.out (m + 1 + t) (by simp [hds]; omega)
      obtain ⟨o0, o1⟩ := own_at HO2.out kk (by simp [hds]; omega)
      have f0 : wr.frozen? ⟨g, kk * 2, none⟩ = false := (own_blk HO2.out).choose_spec.1.frozen _
      have f1 : wr.frozen? ⟨g, kk * 2 + 1, none⟩ = false := (own_blk HO2.out).choose_spec.1.frozen _
      have ex : dk.toList[m + 1 + (t + 1)]'(by simp [hds]; omega) = u := by
        rw [hu]
        simpa [hjl, show m + 1 + (t + 1) < dk.size by omega] using hg2
      have ey : dk.toList[m + 1 + t]'(by simp [hds]; omega) = v := by
        rw [hv]
        simpa [show m + 1 + t < l.length by omega, show m + 1 + t < dk.size by omega] using hg1
      rw [ex, show (m + 1 + (t + 1)) * 2 = (m + 1) * 2 + (t + 1) * 2 by omega] at x0 x1
      rw [ey, show (m + 1 + t) * 2 = (m + 1) * 2 + t * 2 by omega] at y0 y1
      have HU := Sh.mk (And.intro hu hv)
      have e2 : ((t + 1 : Nat) : Int) - 1 = (t : Int) := by omega
      have hlt3 : t + 1 < l.length - (m + 1) := by omega
      generalize dk.toList[kk]'(by simp [hds]; omega) = old at o0 o1
      clear hg2 hg1 ex ey hu hv
      by_cases hab2 : u.a = v.a
      case neg =>
        have d1 : (u.a == v.a) = false := by simp [hab2]
        have HKN := Sh.mk (show keeps l.toArray (m + 1 + (t + 1)) = true from keeps_pos (by
          have ex : l.toArray[m + 1 + (t + 1)]! = u := by rw [HU.out.1]; simp [hjl]
          have ey : l.toArray[m + 1 + t]! = v := by rw [HU.out.2]; simp [show m + 1 + t < l.length by omega]
          rw [show m + 1 + (t + 1) - 1 = m + 1 + t by omega, ex, ey]
          exact fun e => hab2 (congrArg PR.a e)))
        clear hab2
        go_wp2_with fail
        go_quiet (fail)
        go_wp2_with fail
        go_roundw
        case rel =>
          refine ⟨kk + 1, t + 1, dk.setIfInBounds kk u, by go_num, by go_num, by omega, by omega, ⟨?_⟩, ⟨?_⟩, ⟨?_⟩⟩
          · rw [Array.toList_setIfInBounds]
            exact own_setP HO2.out kk u
          · exact ((HC2.out.drewN _).setCell (p := ⟨g, kk * 2, none⟩) rfl _).setCell (p := ⟨g, kk * 2 + 1, none⟩) rfl _
          · have := HI.out.keep (by simpa using hjl) HKN.out
            rw [show l.toArray[m + 1 + (t + 1)]! = u by rw [HU.out.1]; simp [hjl]] at this
            exact this
        case measure => simp [intOf]; omega
      have d1 : (u.a == v.a) = true := by simp [hab2]
      have hab1 := hab2
      clear hab2
      by_cases hab2 : u.b = v.b
      case neg =>
        have d2 : (u.b == v.b) = false := by simp [hab2]
        clear hab1
        have HKN := Sh.mk (show keeps l.toArray (m + 1 + (t + 1)) = true from keeps_pos (by
          have ex : l.toArray[m + 1 + (t + 1)]! = u := by rw [HU.out.1]; simp [hjl]
          have ey : l.toArray[m + 1 + t]! = v := by rw [HU.out.2]; simp [show m + 1 + t < l.length by omega]
          rw [show m + 1 + (t + 1) - 1 = m + 1 + t by omega, ex, ey]
          exact fun e => hab2 (congrArg PR.b e)))
        clear hab2
        go_wp2_with fail
        go_quiet (fail)
        go_wp2_with fail
        go_roundw
        case rel =>
          refine ⟨kk + 1, t + 1, dk.setIfInBounds kk u, by go_num, by go_num, by omega, by omega, ⟨?_⟩, ⟨?_⟩, ⟨?_⟩⟩
          · rw [Array.toList_setIfInBounds]
            exact own_setP HO2.out kk u
          · exact ((HC2.out.drewN _).setCell (p := ⟨g, kk * 2, none⟩) rfl _).setCell (p := ⟨g, kk * 2 + 1, none⟩) rfl _
          · have := HI.out.keep (by simpa using hjl) HKN.out
            rw [show l.toArray[m + 1 + (t + 1)]! = u by rw [HU.out.1]; simp [hjl]] at this
            exact this
        case measure => simp [intOf]; omega
      have d2 : (u.b == v.b) = true := by simp [hab2]
      have HKN2 := Sh.mk (show keeps l.toArray (m + 1 + (t + 1)) = false from keeps_neg (by omega) (by
        have ex : l.toArray[m + 1 + (t + 1)]! = u := by rw [HU.out.1]; simp [hjl]
        have ey : l.toArray[m + 1 + t]! = v := by rw [HU.out.2]; simp [show m + 1 + t < l.length by omega]
        rw [show m + 1 + (t + 1) - 1 = m + 1 + t by omega, ex, ey]
        obtain ⟨a, b⟩ := u
        obtain ⟨a', b'⟩ := v
        simp_all))
      clear hab2 hab1
      go_wp2_with fail
      go_quiet (fail)
      go_wp2_with fail
      go_roundw
      case rel => exact ⟨kk, t + 1, dk, rfl, by go_num, by omega, by omega, ⟨HO2.out⟩, ⟨HC2.out.drewN _⟩, ⟨HI.out.skip HKN2.out⟩⟩
      case measure => simp [intOf]; omega
end Go.Proofs.Ytapjjhdopelpjaa
