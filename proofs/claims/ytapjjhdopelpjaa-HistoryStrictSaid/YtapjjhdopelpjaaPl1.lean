import Derived.Test.YtapjjhdopelpjaaSer
namespace Go.Proofs.Ytapjjhdopelpjaa
set_option linter.unusedVariables false
set_option linter.unusedSimpArgs false
open Go.RowKit Go.Maps Go.Proofs.K

def okE (e : EV) : Prop := 1 ≤ e.kind ∧ e.kind ≤ 4 ∧ (endsF e = true → e.key.size = 0)
theorem bad_iff (e : EV) (s : List Int) : badF e s = false ↔ okE e ∧ e.txn ∉ s := by
  unfold badF okE
  cases endsF e <;> simp <;> grind
theorem endStep_up {s : List Int} (h : s.Pairwise (· < ·)) (e : EV) : (endStep s e).Pairwise (· < ·) := by
  unfold endStep
  split
  · exact addS_up h _
  · exact h
theorem endStep_mem {s : List Int} (h : s.Pairwise (· < ·)) (e : EV) (x : Int) : x ∈ endStep s e ↔ (endsF e = true ∧ x = e.txn) ∨ x ∈ s := by
  unfold endStep
  split <;> rename_i he
  · rw [addS_mem h]; simp [he]
  · simp [he]
theorem rightGo_iff : ∀ (l : List EV) (s : List Int), s.Pairwise (· < ·) → (rightGo l s = true ↔ (∀ e ∈ l, okE e ∧ e.txn ∉ s) ∧ l.Pairwise (fun e f => endsF e = true → f.txn ≠ e.txn))
  | [], s, _ => by simp [rightGo]
  | e :: r, s, h => by
    rw [rightGo]
    by_cases hb : badF e s = true
    · rw [if_pos hb]
      have : ¬ (okE e ∧ e.txn ∉ s) := fun h => by rw [(bad_iff e s).2 h] at hb; cases hb
      simp only [Bool.false_eq_true, false_iff]
      intro hh
      exact this (hh.1 e (List.mem_cons_self ..))
    · rw [if_neg hb]
      have hb2 : badF e s = false := by simpa using hb
      have hok := (bad_iff e s).1 hb2
      rw [rightGo_iff r _ (endStep_up h e), List.pairwise_cons]
      constructor
      · rintro ⟨h1, h2⟩
        refine ⟨fun f hf => ?_, fun f hf he heq => ?_, h2⟩
        · rcases List.mem_cons.1 hf with rfl | hf
          · exact hok
          · exact ⟨(h1 f hf).1, fun hm => (h1 f hf).2 ((endStep_mem h e _).2 (.inr hm))⟩
        · exact (h1 f hf).2 ((endStep_mem h e _).2 (.inl ⟨he, heq⟩))
      · rintro ⟨h1, h2, h3⟩
        refine ⟨fun f hf => ⟨(h1 f (List.mem_cons_of_mem _ hf)).1, fun hm => ?_⟩, h3⟩
        rcases (endStep_mem h e _).1 hm with ⟨he, hx⟩ | hm
        · exact h2 f hf he hx
        · exact (h1 f (List.mem_cons_of_mem _ hf)).2 hm
theorem right_iff (l : List EV) : hRightF l = true ↔ (∀ (i : Nat) (e : EV), l[i]? = some e → okE e) ∧ ∀ (j i : Nat) (e f : EV), j < i → l[j]? = some e → l[i]? = some f → endsF e = true → f.txn ≠ e.txn := by
  unfold hRightF
  rw [rightGo_iff l [] List.Pairwise.nil]
  constructor
  · rintro ⟨h1, h2⟩
    refine ⟨fun i e he => (h1 e (List.mem_of_getElem? he)).1, fun j i e f hji hj hi => ?_⟩
    obtain ⟨hj', rfl⟩ := List.getElem?_eq_some_iff.1 hj
    obtain ⟨hi', rfl⟩ := List.getElem?_eq_some_iff.1 hi
    exact List.pairwise_iff_getElem.1 h2 j i hj' hi' hji
  · rintro ⟨h1, h2⟩
    refine ⟨fun e he => ?_, List.pairwise_iff_getElem.2 fun j i hj hi hji => h2 j i _ _ hji (List.getElem?_eq_getElem hj) (List.getElem?_eq_getElem hi)⟩
    obtain ⟨i, hi, rfl⟩ := List.mem_iff_getElem.1 he
    exact ⟨h1 i _ (List.getElem?_eq_getElem hi), by simp⟩
theorem strictIn_iff (e : EV) : ∀ (r : List EV), strictIn e r = true ↔ ∀ (k : Nat) (f : EV), r[k]? = some f → clashF e f = true → ∃ (m : Nat) (g : EV), m < k ∧ r[m]? = some g ∧ g.txn = e.txn ∧ endsF g = true
  | [] => by simp [strictIn]
  | f :: r => by
    rw [strictIn]
    by_cases h1 : (f.txn == e.txn && endsF f) = true
    · rw [if_pos h1]
      simp only [Bool.and_eq_true, beq_iff_eq] at h1
      simp only [true_iff]
      intro k g hk hc
      cases k with
      | zero =>
        simp only [List.getElem?_cons_zero, Option.some.injEq] at hk
        subst hk
        unfold clashF at hc
        simp only [Bool.and_eq_true, bne_iff_ne, ne_eq, Bool.not_eq_true'] at hc
        exact absurd h1.1.symm hc.1.1.1.1
      | succ k => exact ⟨0, f, by omega, rfl, h1.1, h1.2⟩
    · rw [if_neg h1]
      by_cases h2 : clashF e f = true
      · rw [if_pos h2]
        simp only [Bool.false_eq_true, false_iff]
        intro h
        obtain ⟨m, _, hm, _⟩ := h 0 f rfl h2
        omega
      · rw [if_neg h2, strictIn_iff e r]
        constructor
        · intro h k g hk hc
          cases k with
          | zero =>
            simp only [List.getElem?_cons_zero, Option.some.injEq] at hk
            subst hk
            exact absurd hc h2
          | succ k =>
            obtain ⟨m, g', hm, h3, h4⟩ := h k g (by simpa using hk) hc
            exact ⟨m + 1, g', by omega, by simpa using h3, h4⟩
        · intro h k g hk hc
          obtain ⟨m, g', hm, h3, h4⟩ := h (k + 1) g (by simpa using hk) hc
          cases m with
          | zero =>
            simp only [List.getElem?_cons_zero, Option.some.injEq] at h3
            subst h3
            exact absurd (by simp [h4.1, h4.2]) h1
          | succ m => exact ⟨m, g', by omega, by simpa using h3, h4⟩
theorem strictGo_iff : ∀ (l : List EV), strictGo l = true ↔ ∀ (i k : Nat) (e f : EV), i < k → l[i]? = some e → l[k]? = some f → e.kind = 2 → clashF e f = true → ∃ (m : Nat) (g : EV), i < m ∧ m < k ∧ l[m]? = some g ∧ g.txn = e.txn ∧ endsF g = true
  | [] => by simp [strictGo]
  | a :: r => by
    rw [strictGo, Bool.and_eq_true, strictGo_iff r]
    constructor
    · rintro ⟨h1, h2⟩ i k e f hik hi hk hw hc
      obtain ⟨k, rfl⟩ : ∃ k', k = k' + 1 := ⟨k - 1, by omega⟩
      rw [List.getElem?_cons_succ] at hk
      cases i with
      | zero =>
        simp only [List.getElem?_cons_zero, Option.some.injEq] at hi
        subst hi
        rw [if_pos hw, strictIn_iff] at h1
        obtain ⟨m, g, hm, h3, h4⟩ := h1 k f hk hc
        exact ⟨m + 1, g, by omega, by omega, by simpa using h3, h4⟩
      | succ i =>
        obtain ⟨m, g, hm, hm2, h3, h4⟩ := h2 i k e f (by omega) (by simpa using hi) hk hw hc
        exact ⟨m + 1, g, by omega, by omega, by simpa using h3, h4⟩
    · intro h
      constructor
      · by_cases hw : a.kind = 2
        · rw [if_pos hw, strictIn_iff]
          intro k f hk hc
          obtain ⟨m, g, hm, hm2, h3, h4⟩ := h 0 (k + 1) a f (by omega) rfl (by simpa using hk) hw hc
          obtain ⟨m, rfl⟩ : ∃ m', m = m' + 1 := ⟨m - 1, by omega⟩
          exact ⟨m, g, by omega, by simpa using h3, h4⟩
        · rw [if_neg hw]
      · intro i k e f hik hi hk hw hc
        obtain ⟨m, g, hm, hm2, h3, h4⟩ := h (i + 1) (k + 1) e f (by omega) (by simpa using hi) (by simpa using hk) hw hc
        obtain ⟨m, rfl⟩ : ∃ m', m = m' + 1 := ⟨m - 1, by omega⟩
        exact ⟨m, g, by omega, by omega, by simpa using h3, h4⟩
theorem take_some {l : List EV} {k i : Nat} {e : EV} : (l.take k)[i]? = some e ↔ i < k ∧ l[i]? = some e := by
  rw [List.getElem?_take]
  by_cases h : i < k <;> simp [h]
/-- What is strict is so, cut off anywhere. -/
theorem strict_take {l : List EV} (h : hStrictF l = true) (k : Nat) : hStrictF (l.take k) = true := by
  unfold hStrictF at h ⊢
  rw [Bool.and_eq_true, right_iff, strictGo_iff] at h ⊢
  obtain ⟨⟨h1, h2⟩, h3⟩ := h
  refine ⟨⟨fun i e he => h1 i e (take_some.1 he).2, fun j i e f hji hj hi => h2 j i e f hji (take_some.1 hj).2 (take_some.1 hi).2⟩, fun i j e f hij hi hj hw hc => ?_⟩
  obtain ⟨m, g, hm, hm2, h4, h5⟩ := h3 i j e f hij (take_some.1 hi).2 (take_some.1 hj).2 hw hc
  exact ⟨m, g, hm, hm2, take_some.2 ⟨by have := (take_some.1 hj).1; omega, h4⟩, h5⟩

theorem thatStep_up (kind : Int) {s : List Int} (h : s.Pairwise (· < ·)) (e : EV) : (thatStep kind s e).Pairwise (· < ·) := by
  unfold thatStep
  split
  · exact addS_up h _
  · exact h
theorem that_up_mem (kind : Int) : ∀ (l : List EV) (s : List Int), s.Pairwise (· < ·) → (l.foldl (thatStep kind) s).Pairwise (· < ·) ∧ ∀ x, x ∈ l.foldl (thatStep kind) s ↔ x ∈ s ∨ ∃ e ∈ l, e.kind = kind ∧ e.txn = x
  | [], s, h => by simp [h]
  | e :: r, s, h => by
    rw [List.foldl_cons]
    obtain ⟨h1, h2⟩ := that_up_mem kind r _ (thatStep_up kind h e)
    refine ⟨h1, fun x => ?_⟩
    rw [h2]
    unfold thatStep
    by_cases he : (e.kind == kind) = true
    · rw [if_pos he, addS_mem h]
      have he' : e.kind = kind := by simpa using he
      simp only [List.mem_cons, exists_eq_or_imp, he', true_and]
      constructor
      · rintro ((rfl | h) | h)
        · exact .inr (.inl rfl)
        · exact .inl h
        · exact .inr (.inr h)
      · rintro (h | rfl | h)
        · exact .inl (.inr h)
        · exact .inl (.inl rfl)
        · exact .inr h
    · rw [if_neg he]
      have he' : ¬ e.kind = kind := by simpa using he
      simp [he']
theorem thatF_up (l : List EV) (kind : Int) : (thatF l kind).Pairwise (· < ·) := (that_up_mem kind l [] List.Pairwise.nil).1
theorem thatF_mem (l : List EV) (kind x : Int) : x ∈ thatF l kind ↔ ∃ e ∈ l, e.kind = kind ∧ e.txn = x := by
  have := (that_up_mem kind l [] List.Pairwise.nil).2 x
  unfold thatF
  rw [this]
  simp
theorem writer_some {l : List EV} {key : ByteArray} {t : Int} (h : writerF l key = some t) : ∃ (j : Nat) (e : EV), l[j]? = some e ∧ e.kind = 2 ∧ e.key = key ∧ e.txn = t ∧ t ∉ thatF l 4 := by
  unfold writerF wrF at h
  rw [Option.map_eq_some_iff] at h
  obtain ⟨e, he, rfl⟩ := h
  have hm := List.mem_of_find?_eq_some he
  have hp := List.find?_some he
  rw [List.mem_reverse] at hm
  obtain ⟨j, hj, hje⟩ := List.mem_iff_getElem.1 hm
  unfold wrP at hp
  simp only [Bool.and_eq_true, beq_iff_eq, decide_eq_true_eq, Bool.not_eq_true', List.contains_eq_mem, decide_eq_false_iff_not] at hp
  exact ⟨j, e, by rw [List.getElem?_eq_getElem hj, hje], hp.1.1, hp.1.2, rfl, hp.2⟩
theorem readsGo_mem {l : List EV} {x : PR} : ∀ {n : Nat}, x ∈ readsGo l n → ∃ (i : Nat) (e : EV) (t : Int), i < n ∧ l[i]? = some e ∧ e.kind = 1 ∧ writerF (l.take i) e.key = some t ∧ t ≠ e.txn ∧ x = ⟨e.txn, t⟩
  | 0, h => by simp [readsGo] at h
  | n + 1, h => by
    rw [readsGo] at h
    split at h
    · rename_i e he
      rw [List.mem_append] at h
      rcases h with h | h
      · obtain ⟨i, e', t, hi, h1⟩ := readsGo_mem h
        exact ⟨i, e', t, by omega, h1⟩
      · unfold readOne at h
        split at h
        · rename_i hk
          unfold readG at h
          split at h
          · rename_i t ht
            split at h
            · simp at h
            · rename_i hne
              simp only [List.mem_singleton] at h
              exact ⟨n, e, t, by omega, he, hk, ht, hne, h⟩
          · simp at h
        · simp at h
    · obtain ⟨i, e', t, hi, h1⟩ := readsGo_mem h
      exact ⟨i, e', t, by omega, h1⟩
theorem placeF_cases (l : List EV) (t : Int) : (placeF l t = -1 ∧ ∀ (i : Nat) (e : EV), l[i]? = some e → e ≠ ⟨t, 3, ⟨#[]⟩⟩) ∨ ∃ k : Nat, placeF l t = (k : Int) ∧ l[k]? = some ⟨t, 3, ⟨#[]⟩⟩ ∧ ∀ (j : Nat) (e : EV), j < k → l[j]? = some e → e ≠ ⟨t, 3, ⟨#[]⟩⟩ := by
  unfold placeF
  rcases idxF_cases (fun x => decide ((⟨t, 3, ⟨#[]⟩⟩ : EV) = x)) l with ⟨h1, h2⟩ | ⟨k, hk, h1, h2, h3⟩
  · refine .inl ⟨h1, fun i e he heq => ?_⟩
    have := h2 e (List.mem_of_getElem? he)
    simp [heq] at this
  · refine .inr ⟨k, h1, by rw [List.getElem?_eq_getElem hk]; simpa using (of_decide_eq_true h2).symm, fun j e hj he heq => ?_⟩
    obtain ⟨hj', rfl⟩ := List.getElem?_eq_some_iff.1 he
    have := h3 j hj' hj
    simp [heq] at this
theorem size0 {s : ByteArray} (h : s.size = 0) : s = ⟨#[]⟩ := by
  obtain ⟨⟨l⟩⟩ := s
  simp [ByteArray.size] at h
  simp [h]
/-- What is strict is recoverable. -/
theorem strict_rec {l : List EV} (h : hStrictF l = true) : hRecF l = true := by
  have hs := h
  unfold hStrictF at h
  rw [Bool.and_eq_true] at h
  obtain ⟨hr, hg⟩ := h
  unfold hRecF
  rw [hr, Bool.true_and, Bool.not_eq_true', List.any_eq_false]
  obtain ⟨h1, h2⟩ := (right_iff l).1 hr
  rw [strictGo_iff] at hg
  intro x hx
  unfold readsF at hx
  rw [if_pos hr] at hx
  obtain ⟨i, e, t, hi, he, hk, hw, hne, rfl⟩ := readsGo_mem hx
  obtain ⟨j, a, ha, hak, hkey, rfl, hgone⟩ := writer_some hw
  obtain ⟨hji, ha⟩ := take_some.1 ha
  have hea : endsF a = false := by unfold endsF; rw [hak]; rfl
  have hee : endsF e = false := by unfold endsF; rw [hk]; rfl
  obtain ⟨m, g, hm1, hm2, hmg, hgt, hge⟩ := hg j i a e hji ha he hak (by
    unfold clashF
    rw [hea, hee, hak]
    simp [hkey, hne])
  have hg3 : g.kind = 3 := by
    have hk4 : ¬ g.kind = 4 := fun h4 => hgone ((thatF_mem _ _ _).2 ⟨g, List.mem_of_getElem? (take_some.2 ⟨hm2, hmg⟩), h4, hgt⟩)
    unfold endsF at hge
    simp at hge
    omega
  have hgk := size0 ((h1 m g hmg).2.2 hge)
  have hgv : g = ⟨a.txn, 3, ⟨#[]⟩⟩ := by
    obtain ⟨g1, g2, g3⟩ := g
    simp only at hgt hg3 hgk
    rw [hgt, hg3, hgk]
  have hpt : ∃ p : Nat, placeF l a.txn = (p : Int) ∧ p ≤ m := by
    rcases placeF_cases l a.txn with ⟨_, h4⟩ | ⟨p, hp, _, h4⟩
    · exact absurd hgv (h4 m g hmg)
    · refine ⟨p, hp, ?_⟩
      rcases Nat.lt_or_ge m p with h5 | h5
      · exact absurd hgv (h4 m g h5 hmg)
      · exact h5
  obtain ⟨p, hp, hpm⟩ := hpt
  unfold recP
  rcases placeF_cases l e.txn with ⟨h4, _⟩ | ⟨q, hq, hlq, _⟩
  · simp [h4]
  · have hqi : i < q := by
      rcases Nat.lt_trichotomy q i with h5 | h5 | h5
      · exact (h2 q i ⟨e.txn, 3, ⟨#[]⟩⟩ e h5 hlq he rfl rfl).elim
      · subst h5
        rw [hlq] at he
        injection he with he
        rw [← he] at hk
        simp at hk
      · exact h5
    simp only [hp, hq]
    simp
    omega
end Go.Proofs.Ytapjjhdopelpjaa
