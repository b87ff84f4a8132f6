import Derived.Test.YtapjjhdopelpjaaEdg
namespace Go.Proofs.Ytapjjhdopelpjaa
set_option linter.unusedVariables false
set_option linter.unusedSimpArgs false
open Go.RowKit Go.Maps Go.Proofs.K Go.Lib

theorem flat_setI (x : Int) : ∀ (l : List Int) (k : Nat), (l.set k x).flatMap encInt = (l.flatMap encInt).set k (.int .i64 x)
  | [], k => by simp
  | y :: l, 0 => by simp [encInt]
  | y :: l, k + 1 => by
    rw [List.set_cons_succ, List.flatMap_cons, flat_setI x l k, List.flatMap_cons]
    simp [encInt]
theorem flat_lenI (m : List Int) : (m.flatMap encInt).length = m.length := by rw [flat_ints, List.length_map]
theorem own_setI {w : World} {base g n cap e : Nat} {l : List Int} (h : Own encInt e 1 w base (.slice (some ⟨g, 0, none⟩) n cap) l) (k : Nat) (x : Int) :
    Own encInt e 1 (w.setCell ⟨g, k, none⟩ (.int .i64 x)) base (.slice (some ⟨g, 0, none⟩) n cap) (l.set k x) := by
  obtain ⟨cs, hb, hn, hg, hc, hm, hs, ht, hf⟩ := own_blk h
  refine blk_own (hb.set _ _) (by simp [hn]) hg hc hm (by simp [hs]) ?_ ?_
  · rw [List.take_set, ht, flat_setI]
  · rw [flat_setI]; simp [hf]
theorem own_cutI {w : World} {base g n cap e : Nat} {l : List Int} (h : Own encInt e 1 w base (.slice (some ⟨g, 0, none⟩) n cap) l) (k : Nat) (hk : k ≤ n) :
    Own encInt e 1 w base (.slice (some ⟨g, 0, none⟩) k cap) (l.take k) := by
  obtain ⟨cs, hb, hn, hg, hc, hm, hs, ht, hf⟩ := own_blk h
  refine blk_own hb (by rw [List.length_take]; omega) hg (by omega) hm hs ?_ ?_
  · rw [flat_ints, List.map_take, ← flat_ints, ← ht, List.take_take]; congr 1; omega
  · rw [flat_lenI, List.length_take]; omega
theorem own_outI {base g n cap e : Nat} {l : List Int} : ∀ (vs : List Value) (o : Nat) (w : World), n ≤ o → Own encInt e 1 w base (.slice (some ⟨g, 0, none⟩) n cap) l → Own encInt e 1 (w.setCells g o vs) base (.slice (some ⟨g, 0, none⟩) n cap) l
  | [], _, _, _, h => h
  | v :: r, o, w, ho, h => by
    rw [World.setCells]
    refine own_outI r (o + 1) _ (by omega) ?_
    obtain ⟨cs, hb, hn, hg, hc, hm, hs, ht, hf⟩ := own_blk h
    refine blk_own (hb.set _ _) hn hg hc hm (by simp [hs]) ?_ hf
    rw [List.take_set_of_le (by omega), ht]
theorem own_atI {w : World} {base g n cap e : Nat} {l : List Int} (h : Own encInt e 1 w base (.slice (some ⟨g, 0, none⟩) n cap) l) (k : Nat) (hk : k < l.length) : w.cell? ⟨g, k, none⟩ = some (.int .i64 l[k]) := by
  have hr := (own_row h (fun _ => rfl)).1
  obtain ⟨b, off, e, hcc⟩ := hr k hk
  injection e with e
  injection e with e1 e2
  subst e1 e2
  have h0 := hcc 0 _ rfl
  simpa using h0

/-- A predicate that is handed over: in whatever world that has come of w0 but for F's blocks. -/
def PredG {α : Type} (F : Nat → Prop) (P : Program) (g : FuncId) (lb : Array Value) (enc : α → Value) (p : α → Bool) (w0 : World) : Prop :=
  ∀ W x, Chg F w0 W → Calls P g (#[enc x] ++ lb) W fun e w' => e = .returned (.bool (p x)) ∧ Below W.heap.size W w'
theorem idxF_cases {α : Type} (p : α → Bool) (l : List α) : (idxF p l = -1 ∧ ∀ x ∈ l, p x = false) ∨ ∃ k : Nat, ∃ hk : k < l.length, idxF p l = (k : Int) ∧ p l[k] = true ∧ ∀ j (hj : j < l.length), j < k → p l[j] = false := by
  unfold idxF
  cases h : l.findIdx? p with
  | none =>
    rw [List.findIdx?_eq_none_iff] at h
    exact .inl ⟨rfl, h⟩
  | some i =>
    rw [List.findIdx?_eq_some_iff_getElem] at h
    obtain ⟨hk, hp, hn⟩ := h
    exact .inr ⟨i, hk, rfl, hp, fun j hj hjk => by simpa using hn j hjk⟩
/-- The second loop's relation. -/
structure DelInv (p : Int → Bool) (l : List Int) (i j : Nat) (dk : List Int) : Prop where
  size : dk.length = l.length
  lt : i < j
  le : j ≤ l.length
  low : dk.take i = (l.take j).filter fun x => !p x
  high : ∀ t, j ≤ t → dk[t]? = l[t]?
theorem DelInv.start {p : Int → Bool} {l : List Int} {k : Nat} (hk : k < l.length) (hp : p l[k] = true) (hn : ∀ j (hj : j < l.length), j < k → p l[j] = false) : DelInv p l k (k + 1) l where
  size := rfl
  lt := Nat.lt_succ_self _
  le := hk
  low := by
    rw [List.take_succ_eq_append_getElem hk, List.filter_append, List.filter_eq_self.2 (fun x hx => by
      obtain ⟨j, hj, rfl⟩ := List.mem_iff_getElem.1 hx
      rw [List.length_take] at hj
      rw [List.getElem_take, hn j (by omega) (by omega)]
      rfl)]
    simp [hp]
  high := fun _ _ => rfl
theorem DelInv.skip {p : Int → Bool} {l dk : List Int} {i j : Nat} (h : DelInv p l i j dk) (hj : j < l.length) (hp : p l[j] = true) : DelInv p l i (j + 1) dk where
  size := h.size
  lt := Nat.lt_succ_of_lt h.lt
  le := hj
  low := by rw [h.low, List.take_succ_eq_append_getElem hj, List.filter_append]; simp [hp]
  high := fun t ht => h.high t (by omega)
theorem DelInv.keep {p : Int → Bool} {l dk : List Int} {i j : Nat} (h : DelInv p l i j dk) (hj : j < l.length) (hp : p l[j] = false) : DelInv p l (i + 1) (j + 1) (dk.set i l[j]) where
  size := by simp [h.size]
  lt := by have := h.lt; omega
  le := hj
  low := by
    have hi : i < dk.length := by have := h.lt; have := h.size; omega
    rw [List.take_succ_eq_append_getElem (by simpa using hi), List.getElem_set_self, List.take_set_of_le (Nat.le_refl _), h.low, List.take_succ_eq_append_getElem hj, List.filter_append]
    simp [hp]
  high := fun t ht => by rw [List.getElem?_set_ne (by have := h.lt; omega)]; exact h.high t (by omega)
theorem DelInv.len {p : Int → Bool} {l dk : List Int} {i j : Nat} (h : DelInv p l i j dk) : ((l.take j).filter fun x => !p x).length = i := by
  rw [← h.low, List.length_take]
  have := h.lt
  have := h.le
  have := h.size
  omega

set_option maxHeartbeats 8000000 in
set_option maxRecDepth 100000 in
theorem del_func {base : Nat} {v : Value} {l : List Int} (f : Nat) (lb : Array Value) (eg : ∀ args w, (callFunc f args).run Try.prog w = .ok (.enter f args) w) (p : Int → Bool) (w : World) (h : Own encInt 3 1 w base v l) (hl : l.length ≤ 1000000)
    (hp : PredG (fun k => some k = v.ownBlock) Try.prog f lb (Value.int .i64) p w) :
    Calls Try.prog 30 #[v, .func (.func f) #[] lb] w fun e w' => ∃ v', e = .returned v' ∧ Own encInt 3 1 w' base v' (l.filter fun x => !p x) ∧ Chg (fun k => some k = v.ownBlock) w w' := by
  obtain ⟨A, c, hv, hlc, hcm, hr⟩ := h.reads (fun _ => rfl)
  have hm : l.length ≤ 9223372036854775807 := by omega
  have HI := Sh.mk (index_int_calls f lb eg p A c l w hr hm (fun W x hb => hp W x (Chg.of_below hb)))
  have HO := Sh.mk h
  have HP := Sh.mk hp
  rcases idxF_cases p l with ⟨hi, hall⟩ | ⟨k, hk, hi, hpk, hn⟩
  · subst hv
    rw [hi] at HI
    have hfil : (l.filter fun x => !p x) = l := List.filter_eq_self.2 fun x hx => by rw [hall x hx]; rfl
    rw [hfil]
    clear h hr hp HP hall hfil
    go_enter Try.func30, Try.ntmps30
    go_wp2_with fail
    refine HI.out.mono ?_
    rintro e w1 ⟨rfl, hb⟩
    go_wp2_with fail
    go_ret
    exact ⟨_, rfl, HO.out.below hb, Chg.of_below hb⟩
  rcases h.2 with ⟨rfl, h0⟩ | ⟨g, cap, cur, rfl, hg, hh, hn', hc, hs, ht⟩
  · omega
  injection hv with hv1 hv2 hv3
  subst hv1 hv3
  have HD := Sh.mk (DelInv.start hk hpk hn)
  rw [hi] at HI
  have hgl := (Array.getElem?_eq_some_iff.1 hh).1
  clear h hr hp hpk hn hh ht hs hv2
  go_enter Try.func30, Try.ntmps30
  go_wp2_with fail
  refine HI.out.mono ?_
  rintro e w1 ⟨rfl, hb1⟩
  have HC1 := Sh.mk (Chg.of_below (F := fun j => j = g) hb1)
  have HO1 := Sh.mk (HO.out.below hb1)
  have hk1 : ((k : Int) == -1) = false := by
    have h : ¬ (k : Int) = -1 := by omega
    simp [h]
  clear hb1 HI
  go_wp2_with fail
  go_loopw [5, 6] (fun i5 i6 wr => ∃ (i j : Nat) (dk : List Int), i5 = .int .i64 i ∧ i6 = .int .i64 j ∧ i < j ∧ j ≤ l.length ∧ Sh (DelInv p l i j dk) ∧ Sh (Own encInt 3 1 wr base (.slice (some ⟨g, 0, none⟩) l.length cap) dk) ∧ Sh (Chg (fun j => j = g) w wr)) (fun _ i _ => l.length - (intOf i).toNat)
  case atStart => exact ⟨k, k + 1, l, rfl, by go_num, by omega, by omega, HD, HO1, HC1⟩
  case round =>
    clear HC1 HO1
    obtain ⟨i, j, dk, rfl, rfl, hij, hjl, HD, HO, HC⟩ := hrel
    have hds := HD.out.size
    by_cases hlt : j < l.length
    case neg =>
      obtain rfl : j = l.length := by omega
      have hkc : i < cap := by omega
      have hkc2 : ¬ cap = i := by omega
      have hil : i ≤ l.length := by omega
      have hcl : ∀ ty, (Builtin.clear_ #[31] ty #[.slice (some ⟨g, i, none⟩) (l.length - i) (cap - i)]).run Try.prog wr = .ok (.tuple #[]) (wr.setCells g i (List.replicate (l.length - i) (.int .i64 0))) := fun ty => by
        obtain ⟨cs, hb, -, -, -, -, hs, -, -⟩ := own_blk HO.out
        exact Lib.run_clear_slice wr _ _ ty (.int .i64 0) Try.underlying31 (fun w => Try.zeroValue3 w) rfl rfl g i _ _ (by omega) (fun j hj => by rw [hb.cell, List.getElem?_eq_getElem (by rw [hs]; omega)]; rfl) (fun j hj => hb.frozen _)
      have HF := Sh.mk (show Own encInt 3 1 (wr.setCells g i (List.replicate (l.length - i) (.int .i64 0))) base (.slice (some ⟨g, 0, none⟩) i cap) (l.filter fun x => !p x) from by
        have h1 := own_outI (List.replicate (l.length - i) (.int .i64 0)) i _ (Nat.le_refl _) (own_cutI HO.out i hil)
        have e := HD.out.low
        rw [List.take_length] at e
        rw [e] at h1
        exact h1)
      have HCF := Sh.mk (HC.out.trans (chg_setCells wr g i (List.replicate (l.length - i) (.int .i64 0)) (Nat.lt_of_lt_of_le hgl HC.out.size)) (fun _ _ h => h))
      clear HO HC HD
      go_wp2_with fail
      go_ret
      exact ⟨_, rfl, HF.out, HCF.out.mono (fun k _ e => by rw [e]; rfl)⟩
    obtain ⟨x, hx⟩ : ∃ x, x = l[j] := ⟨_, rfl⟩
    have hhi := HD.out.high j (Nat.le_refl _)
    have cj := own_atI HO.out j (by omega)
    have ci := own_atI HO.out i (by omega)
    have ex : dk[j]'(by omega) = x := by
      rw [hx]
      rw [List.getElem?_eq_getElem (by omega), List.getElem?_eq_getElem hlt] at hhi
      exact Option.some.inj hhi
    rw [ex] at cj
    generalize dk[i]'(by omega) = old at ci
    clear hhi ex
    have HX := Sh.mk hx
    clear hx
    have hpx : Calls Try.prog f (#[Value.int .i64 x] ++ lb) wr (fun e w' => e = .returned (.bool (p x)) ∧ Below wr.heap.size wr w') := HP.out wr x (HC.out.mono (fun k _ e => by rw [e]; rfl))
    generalize hq : p x = q at hpx
    have HQ := Sh.mk hq
    clear hq
    go_wp2_with fail
    refine hpx.mono ?_
    rintro e w2 ⟨rfl, hb2⟩
    have HO2 := Sh.mk (HO.out.below hb2)
    have HC2 := Sh.mk (HC.out.trans (Chg.of_below (F := fun _ => False) hb2) (fun _ _ h => h.elim))
    have c2 := below_cell hb2 ci
    have f2 : w2.frozen? ⟨g, i, none⟩ = false := (own_blk HO2.out).choose_spec.1.frozen _
    clear hb2 ci cj HO HC hpx
    cases q
    · go_wp2_with fail
      go_roundw
      case rel =>
        refine ⟨i + 1, j + 1, dk.set i x, by go_num, by go_num, by omega, by omega, ⟨?_⟩, ⟨own_setI HO2.out i x⟩, ⟨HC2.out.setCell (p := ⟨g, i, none⟩) rfl _⟩⟩
        have := HD.out.keep hlt (by rw [← HX.out]; exact HQ.out)
        rw [← HX.out] at this
        exact this
      case measure => simp [intOf]; omega
    · go_wp2_with fail
      go_roundw
      case rel => exact ⟨i, j + 1, dk, rfl, by go_num, by omega, by omega, ⟨HD.out.skip hlt (by rw [← HX.out]; exact HQ.out)⟩, HO2, HC2⟩
      case measure => simp [intOf]; omega
end Go.Proofs.Ytapjjhdopelpjaa
