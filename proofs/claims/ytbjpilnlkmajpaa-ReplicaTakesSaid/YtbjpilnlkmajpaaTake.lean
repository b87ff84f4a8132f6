import Derived.Test.YtbjpilnlkmajpaaMay
namespace Go.Proofs.Ytbjpilnlkmajpaa
set_option linter.unusedVariables false
set_option linter.unusedSimpArgs false
open Go.RowKit Go.Maps Go.Proofs.K

def takeS (s : RS) (x : BR) : RS where
  gsn := x.r.gsn
  str := x.stream
  now := if x.r.kind = 5 then commitF s.now ((s.opn x.r.txn).getD []) else s.now
  opn := if x.r.kind = 1 then updI s.opn x.r.txn (some []) else if x.r.kind = 2 ∨ x.r.kind = 3 then updI s.opn x.r.txn (some ((s.opn x.r.txn).getD [] ++ [x.r]))
    else if x.r.kind = 5 ∨ x.r.kind = 6 then updI s.opn x.r.txn none else s.opn

theorem IsRep.mono {w : World} {p N M N' M' : Nat} {F F' : Nat → Prop} {s : RS} (h : IsRep w p N M F s) (hN : N ≤ N') (hM : M ≤ M') (hF : ∀ k, F k → F' k) : IsRep w p N' M' F' s := by
  obtain ⟨bn, bo, O, h⟩ := h
  refine ⟨bn, bo, O, h.blk, h.now.mono hN, h.opn.mono hM, hF _ h.fp, hF _ h.fn, hF _ h.fo, h.np, h.op, h.no, h.same, ?_, h.apart⟩
  intro id rs v h1 h2
  obtain ⟨a, b, c, d⟩ := h.rows id rs v h1 h2
  exact ⟨a, Nat.le_trans b hM, c, fun k hk => ⟨hF k (d k hk).1, (d k hk).2⟩⟩
theorem IsRep.chg {w w1 : World} {p N M : Nat} {F G : Nat → Prop} {s : RS} (h : IsRep w p N M F s) (c : Chg G w w1) (hG : ∀ k, F k → ¬ G k) : IsRep w1 p N M F s := by
  obtain ⟨bn, bo, O, h⟩ := h
  refine ⟨bn, bo, O, h.blk.chg c (hG _ h.fp), h.now.chg c (hG _ h.fn), h.opn.chg c (hG _ h.fo), h.fp, h.fn, h.fo, h.np, h.op, h.no, h.same, ?_, h.apart⟩
  intro id rs v h1 h2
  obtain ⟨a, b, c', d⟩ := h.rows id rs v h1 h2
  exact ⟨a.chg c (fun k hk => hG k (d k hk).1), b, c', d⟩

theorem IsRep.tight {w : World} {p N M : Nat} {F : Nat → Prop} {s : RS} (h : IsRep w p N M F s) : IsRep w p N M (fun k => F k ∧ k < w.heap.size) s := by
  obtain ⟨bn, bo, O, h⟩ := h
  refine ⟨bn, bo, O, h.blk, h.now, h.opn, ⟨h.fp, h.blk.lt⟩, ⟨h.fn, h.now.lt⟩, ⟨h.fo, h.opn.lt⟩, h.np, h.op, h.no, h.same, ?_, h.apart⟩
  intro id rs v h1 h2
  obtain ⟨a, b, c', d⟩ := h.rows id rs v h1 h2
  exact ⟨a, b, c', fun k hk => ⟨⟨(d k hk).1, (a.lt k hk).2⟩, (d k hk).2⟩⟩
theorem updI_same {α : Type} (m : Int → Option α) (k : Int) (v : Option α) : updI m k v k = v := by simp [updI]
theorem updI_other {α : Type} (m : Int → Option α) (k : Int) (v : Option α) {x : Int} (h : x ≠ k) : updI m k v x = m x := by simp [updI, h]

set_option maxHeartbeats 1000000 in
theorem take_calls (p N M : Nat) (F : Nat → Prop) (s : RS) (x : BR) (w : World) (hs : IsRep w p N M F s) (hop : x.r.kind ≠ 1 → (s.opn x.r.txn).isSome = true)
    (hwx : (Lit.int .i64 x.r.txn).wf = true) (hks : x.r.key.size ≤ maxLen ∧ x.r.aft.s.size ≤ maxLen) (hN : N + M < maxLen) (hM : M + 1 ≤ 1000000000) :
    Calls Try.prog 24 #[.pointer (some ⟨p, 0, none⟩), .agg (encBR x).toArray] w fun e w' => e = .returned (.tuple #[]) ∧ IsRep w' p (N + M) (M + 1) (fun k => F k ∨ w.heap.size ≤ k) (takeS s x) ∧ Chg F w w' := by
  obtain ⟨bn, bo, O, h⟩ := hs
  have hMm : M < maxLen := by unfold maxLen; omega
  have hget : x.r.kind ≠ 1 → ∃ rs v, s.opn x.r.txn = some rs ∧ O x.r.txn = some v := fun hk => by
    have h1 := hop hk
    have h2 := h.same x.r.txn
    rw [h1] at h2
    obtain ⟨rs, hr⟩ := Option.isSome_iff_exists.1 h1
    obtain ⟨v, hv⟩ := Option.isSome_iff_exists.1 h2
    exact ⟨rs, v, hr, hv⟩
  by_cases k1 : x.r.kind = 1
  · refine (take1_calls p bn bo M s.gsn s.str O x w k1 h.blk h.op hwx h.opn hMm).mono ?_
    rintro e w' ⟨rfl, hb, ho, hc⟩
    have e1 : takeS s x = ⟨x.r.gsn, x.stream, s.now, updI s.opn x.r.txn (some [])⟩ := by simp [takeS, k1]
    rw [e1]
    refine ⟨rfl, ⟨bn, bo, _, hb, (h.now.chg hc (by rintro (a | a); exact h.np a; exact h.no a)).mono (by omega), ho, .inl h.fp, .inl h.fn, .inl h.fo, h.np, h.op, h.no, ?_, ?_, ?_⟩, hc.mono (by rintro k - (rfl | rfl); exact h.fp; exact h.fo)⟩
    · intro id
      by_cases hi : id = x.r.txn
      · subst hi; simp [updI_same]
      · simp only [updI_other _ _ _ hi]; exact h.same id
    · intro id rs v h1 h2
      by_cases hi : id = x.r.txn
      · subst hi
        simp only [updI_same, Option.some.injEq] at h1 h2
        subst h1 h2
        exact ⟨Own.nil _ _ _ _ _, by simp, by simp, by simp [Value.ownBlock]⟩
      · simp only [updI_other _ _ _ hi] at h1 h2
        obtain ⟨a, b, c, d⟩ := h.rows id rs v h1 h2
        exact ⟨a.chg hc (fun k hk => by rintro (a | a); exact (d k hk).2.1 a; exact (d k hk).2.2.2 a), by omega, c, fun k hk => ⟨.inl (d k hk).1, (d k hk).2⟩⟩
    · intro i j v u k hij hi hj hk
      by_cases ei : i = x.r.txn
      · subst ei
        simp only [updI_same, Option.some.injEq] at hi
        subst hi
        cases hk
      · by_cases ej : j = x.r.txn
        · subst ej
          simp only [updI_same, Option.some.injEq] at hj
          subst hj
          intro h; cases h
        · simp only [updI_other _ _ _ ei] at hi
          simp only [updI_other _ _ _ ej] at hj
          exact h.apart i j v u k hij hi hj hk
  · obtain ⟨rs, ov, hrs, hov⟩ := hget k1
    obtain ⟨ra, rb, rc, rd⟩ := h.rows _ rs ov hrs hov
    have hovd : (O x.r.txn).getD (.slice none 0 0) = ov := by rw [hov]; rfl
    by_cases k23 : x.r.kind = 2 ∨ x.r.kind = 3
    · have H : Calls Try.prog 24 #[.pointer (some ⟨p, 0, none⟩), .agg (encBR x).toArray] w fun e w' => ∃ ov' : Value, e = .returned (.tuple #[]) ∧ Blk w' p 63 [.int .i64 x.r.gsn, .int .i64 x.stream, .map (some bn), .map (some bo)] ∧ MapIV Try.prog 3 w' bo (M + 1) (updI O x.r.txn (some ov')) ∧ Own encRec 31 11 w' 0 ov' (rs ++ [x.r]) ∧ (ov'.ownBlock = ov.ownBlock ∨ ∃ k, ov'.ownBlock = some k ∧ w.heap.size ≤ k) ∧ Chg (fun k => k = p ∨ k = bo ∨ some k = ov.ownBlock) w w' := by
        rcases k23 with k2 | k2
        · exact take2_calls p bn bo M s.gsn s.str O x w k2 h.blk h.op hwx h.opn hMm ov rs hovd ra (fun k hk => ⟨(rd k hk).2.1, (rd k hk).2.2.2⟩) (by omega)
        · exact take3_calls p bn bo M s.gsn s.str O x w k2 h.blk h.op hwx h.opn hMm ov rs hovd ra (fun k hk => ⟨(rd k hk).2.1, (rd k hk).2.2.2⟩) (by omega)
      refine H.mono ?_
      rintro e w' ⟨ov', rfl, hb, ho, hr, hob, hc⟩
      have e1 : takeS s x = ⟨x.r.gsn, x.stream, s.now, updI s.opn x.r.txn (some (rs ++ [x.r]))⟩ := by
        have k5 : x.r.kind ≠ 5 := by omega
        simp [takeS, k1, k23, hrs, k5]
      rw [e1]
      have hnb : ¬ (bn = p ∨ bn = bo ∨ some bn = ov.ownBlock) := by
        rintro (a | a | a)
        · exact h.np a
        · exact h.no a
        · exact (rd bn a.symm).2.2.1 rfl
      have hnew : ∀ k, ov'.ownBlock = some k → (F k ∨ w.heap.size ≤ k) ∧ k ≠ p ∧ k ≠ bn ∧ k ≠ bo := fun k hk => by
        rcases hob with e | ⟨k', e, hge⟩
        · rw [e] at hk
          exact ⟨.inl (rd k hk).1, (rd k hk).2⟩
        · rw [e] at hk
          obtain rfl : k' = k := by injection hk
          have h1 := h.blk.lt; have h2 := h.now.lt; have h3 := h.opn.lt
          exact ⟨.inr hge, by omega, by omega, by omega⟩
      have hdif : ∀ j u k, j ≠ x.r.txn → O j = some u → ov'.ownBlock = some k → u.ownBlock ≠ some k := fun j u k hj hu hk => by
        rcases hob with e | ⟨k', e, hge⟩
        · rw [e] at hk
          exact h.apart x.r.txn j ov u k (Ne.symm hj) hov hu hk
        · rw [e] at hk
          obtain rfl : k' = k := by injection hk
          intro hk2
          have hsj := h.same j
          rw [hu] at hsj
          obtain ⟨rs2, hrs2⟩ := Option.isSome_iff_exists.1 hsj.symm
          have := (h.rows j rs2 u hrs2 hu).1.lt _ hk2
          omega
      refine ⟨rfl, ⟨bn, bo, _, hb, (h.now.chg hc hnb).mono (by omega), ho, .inl h.fp, .inl h.fn, .inl h.fo, h.np, h.op, h.no, ?_, ?_, ?_⟩, hc.mono (by rintro k - (rfl | rfl | e); exact h.fp; exact h.fo; exact (rd k e.symm).1)⟩
      · intro id
        by_cases hi : id = x.r.txn
        · subst hi; simp [updI_same]
        · simp only [updI_other _ _ _ hi]; exact h.same id
      · intro id rs' v h1 h2
        by_cases hi : id = x.r.txn
        · subst hi
          simp only [updI_same, Option.some.injEq] at h1 h2
          subst h1 h2
          refine ⟨hr, by simp; omega, ?_, hnew⟩
          intro r hr
          rcases List.mem_append.1 hr with hr | hr
          · exact rc r hr
          · obtain rfl := List.mem_singleton.1 hr
            exact hks
        · simp only [updI_other _ _ _ hi] at h1 h2
          obtain ⟨a, b, c, d⟩ := h.rows id rs' v h1 h2
          refine ⟨a.chg hc (fun k hk => ?_), by omega, c, fun k hk => ⟨.inl (d k hk).1, (d k hk).2⟩⟩
          rintro (a | a | a)
          · exact (d k hk).2.1 a
          · exact (d k hk).2.2.2 a
          · exact h.apart id x.r.txn v ov k hi h2 hov hk a.symm
      · intro i j v u k hij hi hj hk
        by_cases ei : i = x.r.txn
        · subst ei
          simp only [updI_same, Option.some.injEq] at hi
          subst hi
          simp only [updI_other _ _ _ (Ne.symm hij)] at hj
          exact hdif j u k (Ne.symm hij) hj hk
        · simp only [updI_other _ _ _ ei] at hi
          by_cases ej : j = x.r.txn
          · subst ej
            simp only [updI_same, Option.some.injEq] at hj
            subst hj
            exact fun hk2 => hdif i v k ei hi hk2 hk
          · simp only [updI_other _ _ _ ej] at hj
            exact h.apart i j v u k hij hi hj hk
    · by_cases k56 : x.r.kind = 5 ∨ x.r.kind = 6
      · have hrest : ∀ w' N' (now' : ByteArray → Option ByteArray), Blk w' p 63 [.int .i64 x.r.gsn, .int .i64 x.stream, .map (some bn), .map (some bo)] → MapSS Try.prog 9 9 w' bn N' now' → N' ≤ N + M → MapIV Try.prog 3 w' bo M (updI O x.r.txn none) → Chg (fun k => k = p ∨ k = bn ∨ k = bo) w w' → takeS s x = ⟨x.r.gsn, x.stream, now', updI s.opn x.r.txn none⟩ →
            IsRep w' p (N + M) (M + 1) (fun k => F k ∨ w.heap.size ≤ k) (takeS s x) ∧ Chg F w w' := by
          intro w' N' now' hb hn hNN ho hc e1
          rw [e1]
          refine ⟨⟨bn, bo, _, hb, hn.mono hNN, ho.mono (by omega), .inl h.fp, .inl h.fn, .inl h.fo, h.np, h.op, h.no, ?_, ?_, ?_⟩, hc.mono (by rintro k - (rfl | rfl | rfl); exact h.fp; exact h.fn; exact h.fo)⟩
          · intro id
            by_cases hi : id = x.r.txn
            · subst hi; simp [updI_same]
            · simp only [updI_other _ _ _ hi]; exact h.same id
          · intro id rs' v h1 h2
            by_cases hi : id = x.r.txn
            · subst hi
              simp only [updI_same] at h1
              cases h1
            · simp only [updI_other _ _ _ hi] at h1 h2
              obtain ⟨a, b, c, d⟩ := h.rows id rs' v h1 h2
              exact ⟨a.chg hc (fun k hk => by rintro (a | a | a); exact (d k hk).2.1 a; exact (d k hk).2.2.1 a; exact (d k hk).2.2.2 a), by omega, c, fun k hk => ⟨.inl (d k hk).1, (d k hk).2⟩⟩
          · intro i j v u k hij hi hj hk
            by_cases ei : i = x.r.txn
            · subst ei
              simp only [updI_same] at hi
              cases hi
            · by_cases ej : j = x.r.txn
              · subst ej
                simp only [updI_same] at hj
                cases hj
              · simp only [updI_other _ _ _ ei] at hi
                simp only [updI_other _ _ _ ej] at hj
                exact h.apart i j v u k hij hi hj hk
        rcases k56 with k5 | k6
        · refine (take5_calls p bn bo M s.gsn s.str O x w k5 h.blk h.op hwx h.np h.no s.now N h.now h.opn ov rs hovd (by omega) ra (fun k hk => (rd k hk).2) rc).mono ?_
          rintro e w' ⟨rfl, hb, hn, ho, hc⟩
          exact ⟨rfl, hrest w' _ _ hb hn (by omega) ho hc (by simp [takeS, k5, hrs])⟩
        · refine (take6_calls p bn bo M s.gsn s.str O x w k6 h.blk h.op hwx h.opn).mono ?_
          rintro e w' ⟨rfl, hb, ho, hc⟩
          refine ⟨rfl, hrest w' N s.now hb (h.now.chg hc ?_) (by omega) ho (hc.mono ?_) (by simp [takeS, k6])⟩
          · rintro (a | a); exact h.np a; exact h.no a
          · rintro k - (a | a); exact .inl a; exact .inr (.inr a)
      · have kk : (x.r.kind == 1) = false ∧ (x.r.kind == 2) = false ∧ (x.r.kind == 3) = false ∧ (x.r.kind == 5) = false ∧ (x.r.kind == 6) = false := by
          simp only [beq_eq_false_iff_ne]
          omega
        refine (take4_calls p bn bo M s.gsn s.str O x w kk h.blk h.op hwx).mono ?_
        rintro e w' ⟨rfl, hb, hc⟩
        have e1 : takeS s x = ⟨x.r.gsn, x.stream, s.now, s.opn⟩ := by
          have k5 : x.r.kind ≠ 5 := by omega
          have k6 : x.r.kind ≠ 6 := by omega
          simp [takeS, k1, k23, k5, k6]
        rw [e1]
        refine ⟨rfl, ⟨bn, bo, O, hb, (h.now.chg hc h.np).mono (by omega), (h.opn.chg hc h.op).mono (by omega), .inl h.fp, .inl h.fn, .inl h.fo, h.np, h.op, h.no, h.same, ?_, h.apart⟩, hc.mono (by rintro k - rfl; exact h.fp)⟩
        intro id rs' v h1 h2
        obtain ⟨a, b, c, d⟩ := h.rows id rs' v h1 h2
        exact ⟨a.chg hc (fun k hk => (d k hk).2.1), by omega, c, fun k hk => ⟨.inl (d k hk).1, (d k hk).2⟩⟩
end Go.Proofs.Ytbjpilnlkmajpaa
