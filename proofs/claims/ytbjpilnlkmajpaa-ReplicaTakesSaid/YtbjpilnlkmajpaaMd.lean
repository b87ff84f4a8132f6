import Derived.Test.YtbjpilnlkmajpaaAwk
namespace Go.Proofs.Ytbjpilnlkmajpaa
set_option linter.unusedVariables false
set_option linter.unusedSimpArgs false
open Go.RowKit Go.Maps Go.Proofs.K

/-! Lists that rise, with one more or without it: as ref01.With and ref18.Set go over them. -/
section
variable {α : Type}
def putStep (ge ne : α → Bool) (y : α) (s : List α × Bool) (x : α) : List α × Bool :=
  (if ne x = true then (if (!s.2 && ge x) = true then s.1 ++ [y] else s.1) ++ [x] else (if (!s.2 && ge x) = true then s.1 ++ [y] else s.1), s.2 || ge x)
def putF (ge ne : α → Bool) (y : α) (inn : Bool) (l : List α) : List α :=
  if (l.foldl (putStep ge ne y) ([], !inn)).2 = true then (l.foldl (putStep ge ne y) ([], !inn)).1 else (l.foldl (putStep ge ne y) ([], !inn)).1 ++ [y]
theorem foldl_succ {β : Type} (f : β → α → β) (b : β) (l : List α) (k : Nat) (h : k < l.length) {x : α} (hx : x = l[k]) : (l.take (k + 1)).foldl f b = f ((l.take k).foldl f b) x := by
  rw [List.take_succ_eq_append_getElem h, List.foldl_append, ← hx]
  rfl
theorem fold_done (ge ne : α → Bool) (y : α) : ∀ (l acc : List α), l.foldl (putStep ge ne y) (acc, true) = (acc ++ l.filter ne, true)
  | [], acc => by simp
  | x :: l, acc => by
    rw [List.foldl_cons]
    cases h : ne x
    · rw [show putStep ge ne y (acc, true) x = (acc, true) by simp [putStep, h], fold_done ge ne y l acc]
      simp [h]
    · rw [show putStep ge ne y (acc, true) x = (acc ++ [x], true) by simp [putStep, h], fold_done ge ne y l (acc ++ [x])]
      simp [h]
theorem put_out (ge ne : α → Bool) (y : α) (l : List α) : putF ge ne y false l = l.filter ne := by
  unfold putF
  rw [show (!false) = true from rfl, fold_done ge ne y l []]
  simp
theorem put_fold (ge ne : α → Bool) (y : α) : ∀ (l acc : List α),
    (if (l.foldl (putStep ge ne y) (acc, false)).2 = true then (l.foldl (putStep ge ne y) (acc, false)).1 else (l.foldl (putStep ge ne y) (acc, false)).1 ++ [y]) =
      acc ++ ((l.takeWhile fun x => !ge x).filter ne ++ y :: (l.dropWhile fun x => !ge x).filter ne)
  | [], acc => by simp
  | x :: l, acc => by
    rw [List.foldl_cons]
    cases hg : ge x <;> cases h : ne x
    · rw [show putStep ge ne y (acc, false) x = (acc, false) by simp [putStep, h, hg], put_fold ge ne y l acc]
      simp [h, hg]
    · rw [show putStep ge ne y (acc, false) x = (acc ++ [x], false) by simp [putStep, h, hg], put_fold ge ne y l (acc ++ [x])]
      simp [h, hg]
    · rw [show putStep ge ne y (acc, false) x = (acc ++ [y], true) by simp [putStep, h, hg], fold_done ge ne y l (acc ++ [y])]
      simp [h, hg]
    · rw [show putStep ge ne y (acc, false) x = (acc ++ [y] ++ [x], true) by simp [putStep, h, hg], fold_done ge ne y l (acc ++ [y] ++ [x])]
      simp [h, hg]
theorem put_in (ge ne : α → Bool) (y : α) (l : List α) : putF ge ne y true l = (l.takeWhile fun x => !ge x).filter ne ++ y :: (l.dropWhile fun x => !ge x).filter ne := by
  have h := put_fold ge ne y l []
  unfold putF
  rw [show (!true) = false from rfl, h]
  rfl
theorem take_while_not (ge : α → Bool) : ∀ (l : List α), ∀ x ∈ l.takeWhile (fun x => !ge x), ge x = false
  | a :: l, x, hx => by
    rw [List.takeWhile_cons] at hx
    cases h : ge a <;> simp [h] at hx
    rcases hx with rfl | hx
    · exact h
    · exact take_while_not ge l x hx
theorem drop_while_ge (ge : α → Bool) {R : α → α → Prop} (hm : ∀ a b, R a b → ge a = true → ge b = true) : ∀ (l : List α), l.Pairwise R → ∀ x ∈ l.dropWhile (fun x => !ge x), ge x = true
  | a :: l, hp, x, hx => by
    rw [List.dropWhile_cons] at hx
    rw [List.pairwise_cons] at hp
    cases h : ge a <;> simp [h] at hx
    · exact drop_while_ge ge hm l hp.2 x hx
    · rcases hx with rfl | hx
      · exact h
      · exact hm a x (hp.1 x hx) h
/-- Rising: with one more. -/
theorem put_in_up (ge ne : α → Bool) (y : α) (R : α → α → Prop) (l : List α) (hp : l.Pairwise R) (hm : ∀ a b, R a b → ge a = true → ge b = true) (ht : ∀ a b c, R a b → R b c → R a c)
    (h1 : ∀ x ∈ l, ge x = false → R x y) (h2 : ∀ x ∈ l, ge x = true → ne x = true → R y x) : (putF ge ne y true l).Pairwise R := by
  rw [put_in]
  have ha := List.takeWhile_sublist (l := l) (fun x => !ge x)
  have hb := List.dropWhile_sublist (l := l) (fun x => !ge x)
  rw [List.pairwise_append]
  have k1 : ∀ x ∈ (l.takeWhile fun x => !ge x).filter ne, R x y := fun x hx => by
    have hx' := (List.mem_filter.1 hx).1
    exact h1 x (ha.subset hx') (take_while_not ge l x hx')
  have k2 : ∀ x ∈ (l.dropWhile fun x => !ge x).filter ne, R y x := fun x hx => by
    obtain ⟨hx', hn⟩ := List.mem_filter.1 hx
    exact h2 x (hb.subset hx') (drop_while_ge ge hm l hp x hx') hn
  refine ⟨(hp.sublist ha).sublist List.filter_sublist, ?_, ?_⟩
  · rw [List.pairwise_cons]
    exact ⟨k2, (hp.sublist hb).sublist List.filter_sublist⟩
  · intro x hx z hz
    rcases List.mem_cons.1 hz with rfl | hz
    · exact k1 x hx
    · exact ht _ _ _ (k1 x hx) (k2 z hz)
theorem put_in_mem (ge ne : α → Bool) (y : α) (l : List α) (x : α) : x ∈ putF ge ne y true l ↔ x = y ∨ x ∈ l ∧ ne x = true := by
  rw [put_in]
  have h := List.takeWhile_append_dropWhile (p := fun x => !ge x) (l := l)
  have : x ∈ l ↔ x ∈ (l.takeWhile fun x => !ge x) ∨ x ∈ (l.dropWhile fun x => !ge x) := by rw [← List.mem_append, h]
  rw [List.mem_append, List.mem_cons, List.mem_filter, List.mem_filter, this]
  constructor
  · rintro (h | h | h)
    · exact .inr ⟨.inl h.1, h.2⟩
    · exact .inl h
    · exact .inr ⟨.inr h.1, h.2⟩
  · rintro (h | ⟨h | h, h'⟩)
    · exact .inr (.inl h)
    · exact .inl ⟨h, h'⟩
    · exact .inr (.inr ⟨h, h'⟩)
theorem put_length (ge ne : α → Bool) (y : α) (inn : Bool) (l : List α) : (putF ge ne y inn l).length ≤ l.length + 1 := by
  cases inn
  · rw [put_out]
    exact Nat.le_succ_of_le (List.length_filter_le _ _)
  · rw [put_in]
    have h := congrArg List.length (List.takeWhile_append_dropWhile (p := fun x => !ge x) (l := l))
    have h1 := List.length_filter_le ne (l.takeWhile fun x => !ge x)
    have h2 := List.length_filter_le ne (l.dropWhile fun x => !ge x)
    simp only [List.length_append, List.length_cons] at h ⊢
    omega
/-- While it goes, what is made has no more than was read, and one. -/
theorem put_go_length (ge ne : α → Bool) (y : α) (inn : Bool) : ∀ (l : List α), (l.foldl (putStep ge ne y) ([], !inn)).1.length ≤ l.length + 1 := by
  intro l
  have key : ∀ (l acc : List α) (b : Bool), (l.foldl (putStep ge ne y) (acc, b)).1.length ≤ acc.length + l.length + (if b = true then 0 else 1) := by
    intro l
    induction l with
    | nil => intro acc b; simp
    | cons x l ih =>
      intro acc b
      rw [List.foldl_cons]
      have := ih (putStep ge ne y (acc, b) x).1 (putStep ge ne y (acc, b) x).2
      rw [show ((putStep ge ne y (acc, b) x).1, (putStep ge ne y (acc, b) x).2) = putStep ge ne y (acc, b) x from rfl] at this
      refine Nat.le_trans this ?_
      cases b <;> cases hg : ge x <;> cases hn : ne x <;> simp [putStep, hg, hn] <;> omega
  refine Nat.le_trans (key l [] (!inn)) ?_
  cases inn <;> simp
end

def withF (l : List Int) (n : Int) (inn : Bool) : List Int := putF (fun x => decide (n ≤ x)) (fun x => x != n) n inn l
def setF (l : List CL) (key : ByteArray) (v : VL) : List CL := putF (fun c => !(Op.bytesLess c.key.toList key.toList)) (fun c => c.key.toList != key.toList) ⟨key, v.s⟩ v.has l
def hasF (l : List Int) (n : Int) : Bool := l.any (· == n)

structure MS where
  now : List CL
  opn : List Int
  kept : List RC
  last : BR
def keepStep (x : BR) (s : List RC × List CL) (r : RC) : List RC × List CL :=
  if (r.txn != x.r.txn) = true then (s.1 ++ [r], s.2) else if (x.r.kind == 5) = true then (s.1, setF s.2 r.key r.aft) else s
def modNo (m : MS) (x : BR) : Int :=
  if (!rightF x.r || !aheadF m.last.r.gsn m.last.stream x) = true then 1 else if (x.r.kind != 1 && !hasF m.opn x.r.txn) = true then 7 else if (x.r.kind == 1 && hasF m.opn x.r.txn) = true then 8 else 0
def modTake (m : MS) (x : BR) : MS :=
  if x.r.kind < 5 then ⟨m.now, if (x.r.kind == 1) = true then withF m.opn x.r.txn true else m.opn, if (x.r.kind == 2 || x.r.kind == 3) = true then m.kept ++ [x.r] else m.kept, x⟩
  else ⟨(m.kept.foldl (keepStep x) ([], m.now)).2, withF m.opn x.r.txn false, (m.kept.foldl (keepStep x) ([], m.now)).1, x⟩

/-! The order of keys. -/
def klt (a b : CL) : Prop := Op.bytesLess a.key.toList b.key.toList = true
theorem less_eq : ∀ (x y : List UInt8), Op.bytesLess x y = decide (x < y)
  | [], [] => by simp [Op.bytesLess]
  | _ :: _, [] => by simp [Op.bytesLess]
  | [], _ :: _ => by simp [Op.bytesLess]
  | a :: x, b :: y => by
    rw [Op.bytesLess, less_eq x y]
    simp only [List.cons_lt_cons_iff]
    by_cases h1 : a < b <;> by_cases h2 : a = b <;> by_cases h3 : x < y <;> simp [h1, h2, h3]
theorem less_trans {a b c : List UInt8} (h : Op.bytesLess a b = true) (k : Op.bytesLess b c = true) : Op.bytesLess a c = true := by
  rw [less_eq] at *
  exact decide_eq_true (List.lt_trans (of_decide_eq_true h) (of_decide_eq_true k))
theorem less_irrefl (a : List UInt8) : Op.bytesLess a a = false := by
  rw [less_eq]
  exact decide_eq_false (List.lt_irrefl a)
theorem less_tri : ∀ {a b : List UInt8}, Op.bytesLess a b = false → a ≠ b → Op.bytesLess b a = true
  | [], [], _, h => absurd rfl h
  | [], _ :: _, h, _ => by simp [Op.bytesLess] at h
  | _ :: _, [], _, _ => by simp [Op.bytesLess]
  | a :: x, b :: y, h, hne => by
    by_cases e : a = b
    · subst e
      have h' : Op.bytesLess x y = false := by simpa [Op.bytesLess] using h
      have := less_tri h' (fun k => hne (by rw [k]))
      simp [Op.bytesLess, this]
    · have h' : ¬ a < b := fun k => by simp [Op.bytesLess, k] at h
      have : b < a := UInt8.lt_of_le_of_ne (UInt8.not_lt.1 h') (Ne.symm e)
      simp [Op.bytesLess, this]

/-- A model is as a replica's state. -/
structure Like (s : RS) (m : MS) : Prop where
  gsn : m.last.r.gsn = s.gsn
  str : m.last.stream = s.str
  up : m.opn.Pairwise (· < ·)
  opn : ∀ id, id ∈ m.opn ↔ (s.opn id).isSome = true
  kept : ∀ id rs, s.opn id = some rs → rs = m.kept.filter (fun r => r.txn == id)
  all : ∀ r ∈ m.kept, (s.opn r.txn).isSome = true
  upn : m.now.Pairwise klt
  now : ∀ k v, s.now k = some v ↔ ⟨k, v⟩ ∈ m.now

def LikeN (f : ByteArray → Option ByteArray) (l : List CL) : Prop := l.Pairwise klt ∧ ∀ k v, f k = some v ↔ (⟨k, v⟩ : CL) ∈ l
theorem likeN_nil : LikeN (fun _ => none) [] := ⟨List.Pairwise.nil, fun k v => by simp⟩
theorem set_like {f : ByteArray → Option ByteArray} {l : List CL} (h : LikeN f l) (key : ByteArray) (v : VL) :
    LikeN (if v.has = true then updS (updS f key none) key (some v.s) else updS f key none) (setF l key v) := by
  obtain ⟨hu, hm⟩ := h
  obtain ⟨has, s⟩ := v
  unfold setF
  cases has
  · dsimp only
    rw [put_out]
    refine ⟨hu.sublist List.filter_sublist, fun k v => ?_⟩
    rw [List.mem_filter, ← hm k v]
    unfold updS
    by_cases e : k = key
    · subst e; simp
    · have : k.toList ≠ key.toList := fun h => e (toList_inj.1 h)
      simp [e, this]
  · dsimp only
    refine ⟨put_in_up _ _ _ klt l hu ?_ (fun a b c => less_trans) ?_ ?_, fun k v => ?_⟩
    · intro a b hab ha
      have ha' : Op.bytesLess a.key.toList key.toList = false := by simpa using ha
      cases hb : Op.bytesLess b.key.toList key.toList with
      | false => rfl
      | true => rw [less_trans hab hb] at ha'; cases ha'
    · intro x _ hx
      show Op.bytesLess x.key.toList key.toList = true
      simpa using hx
    · intro x _ hx hn
      have hx' : Op.bytesLess x.key.toList key.toList = false := by simpa using hx
      exact less_tri hx' (by simpa using hn)
    · rw [put_in_mem, ← hm k v, if_pos rfl]
      unfold updS
      by_cases e : k = key
      · subst e
        simp
        exact eq_comm
      · have : k.toList ≠ key.toList := fun h => e (toList_inj.1 h)
        simp [e, this]
theorem commit_like {f : ByteArray → Option ByteArray} {l : List CL} (h : LikeN f l) (r : RC) : LikeN (commit1 f r) (setF l r.key r.aft) := set_like h r.key r.aft

theorem keep_fold (x : BR) : ∀ (kept rest : List RC) (now : List CL) (f : ByteArray → Option ByteArray), LikeN f now →
    (kept.foldl (keepStep x) (rest, now)).1 = rest ++ kept.filter (fun r => r.txn != x.r.txn) ∧
    LikeN (if x.r.kind = 5 then commitF f (kept.filter fun r => r.txn == x.r.txn) else f) (kept.foldl (keepStep x) (rest, now)).2
  | [], rest, now, f, h => by
    refine ⟨by simp, ?_⟩
    unfold commitF
    simpa using h
  | r :: kept, rest, now, f, h => by
    rw [List.foldl_cons]
    by_cases e : r.txn = x.r.txn
    · by_cases k : x.r.kind = 5
      · rw [show keepStep x (rest, now) r = (rest, setF now r.key r.aft) by simp [keepStep, e, k]]
        obtain ⟨h1, h2⟩ := keep_fold x kept rest _ _ (commit_like h r)
        refine ⟨by rw [h1]; simp [e], ?_⟩
        rw [if_pos k] at h2 ⊢
        rw [List.filter_cons_of_pos (by simp [e])]
        exact h2
      · rw [show keepStep x (rest, now) r = (rest, now) by simp [keepStep, e, k]]
        obtain ⟨h1, h2⟩ := keep_fold x kept rest now f h
        refine ⟨by rw [h1]; simp [e], ?_⟩
        rw [if_neg k] at h2 ⊢
        exact h2
    · rw [show keepStep x (rest, now) r = (rest ++ [r], now) by simp [keepStep, e]]
      obtain ⟨h1, h2⟩ := keep_fold x kept (rest ++ [r]) now f h
      refine ⟨by rw [h1]; simp [e], ?_⟩
      rw [List.filter_cons_of_neg (by simp [e])]
      exact h2

theorem has_like {s : RS} {m : MS} (h : Like s m) (id : Int) : hasF m.opn id = (s.opn id).isSome := by
  rw [Bool.eq_iff_iff, ← h.opn id]
  unfold hasF
  simp
theorem no_like {s : RS} {m : MS} (h : Like s m) (x : BR) : modNo m x = mayF s.gsn s.str (s.opn x.r.txn).isSome x := by
  unfold modNo mayF
  rw [has_like h, h.gsn, h.str]

theorem with_in {l : List Int} (h : l.Pairwise (· < ·)) (n : Int) : (withF l n true).Pairwise (· < ·) ∧ ∀ x, x ∈ withF l n true ↔ x = n ∨ x ∈ l := by
  refine ⟨put_in_up _ _ _ (· < ·) l h ?_ (fun a b c => Int.lt_trans) ?_ ?_, fun x => ?_⟩
  · intro a b hab ha
    simp at ha ⊢
    omega
  · intro x _ hx
    simp at hx
    exact hx
  · intro x _ hx hn
    simp at hx hn
    omega
  · unfold withF
    rw [put_in_mem]
    by_cases e : x = n <;> simp [e]
theorem with_out {l : List Int} (h : l.Pairwise (· < ·)) (n : Int) : (withF l n false).Pairwise (· < ·) ∧ ∀ x, x ∈ withF l n false ↔ x ∈ l ∧ x ≠ n := by
  unfold withF
  rw [put_out]
  refine ⟨h.sublist List.filter_sublist, fun x => ?_⟩
  rw [List.mem_filter]
  simp

theorem take_like {s : RS} {m : MS} (h : Like s m) (x : BR) (h0 : mayF s.gsn s.str (s.opn x.r.txn).isSome x = 0) : Like (takeS s x) (modTake m x) := by
  have hr : rightF x.r = true := by
    unfold mayF at h0
    cases hr : rightF x.r with
    | true => rfl
    | false => rw [hr] at h0; simp at h0
  have hk : 1 ≤ x.r.kind ∧ x.r.kind ≤ 6 := by
    unfold rightF withinF at hr
    simp at hr
    omega
  have ho : x.r.kind ≠ 1 → (s.opn x.r.txn).isSome = true := may_open h0
  have hn : x.r.kind = 1 → s.opn x.r.txn = none := fun hk1 => by
    unfold mayF at h0
    cases hs : s.opn x.r.txn with
    | none => rfl
    | some rs =>
      rw [hs] at h0
      simp [hk1] at h0
      split at h0 <;> simp at h0
  have hnow : LikeN s.now m.now := ⟨h.upn, h.now⟩
  by_cases k1 : x.r.kind = 1
  · have hn := hn k1
    have hw := with_in h.up x.r.txn
    have e1 : modTake m x = ⟨m.now, withF m.opn x.r.txn true, m.kept, x⟩ := by unfold modTake; simp [k1]
    have e2 : takeS s x = ⟨x.r.gsn, x.stream, s.now, updI s.opn x.r.txn (some [])⟩ := by unfold takeS; simp [k1]
    rw [e1, e2]
    have hnk : ∀ r ∈ m.kept, r.txn ≠ x.r.txn := fun r hr e => by
      have := h.all r hr
      rw [e, hn] at this
      cases this
    refine ⟨rfl, rfl, hw.1, fun id => ?_, fun id rs hi => ?_, fun r hr => ?_, h.upn, h.now⟩
    · rw [hw.2 id, h.opn id]
      unfold updI
      by_cases e : id = x.r.txn <;> simp [e]
    · unfold updI at hi
      dsimp only at hi
      by_cases e : id = x.r.txn
      · rw [if_pos e] at hi
        injection hi with hi
        rw [← hi]
        symm
        rw [List.filter_eq_nil_iff]
        intro r hr
        simp [e, hnk r hr]
      · rw [if_neg e] at hi
        exact h.kept id rs hi
    · unfold updI
      dsimp only
      rw [if_neg (hnk r hr)]
      exact h.all r hr
  by_cases k2 : x.r.kind = 2 ∨ x.r.kind = 3
  · obtain ⟨rs, hrs⟩ := Option.isSome_iff_exists.1 (ho k1)
    have e1 : modTake m x = ⟨m.now, m.opn, m.kept ++ [x.r], x⟩ := by unfold modTake; rcases k2 with k2 | k2 <;> simp [k2]
    have e2 : takeS s x = ⟨x.r.gsn, x.stream, s.now, updI s.opn x.r.txn (some (rs ++ [x.r]))⟩ := by unfold takeS; rcases k2 with k2 | k2 <;> simp [k2, hrs]
    rw [e1, e2]
    refine ⟨rfl, rfl, h.up, fun id => ?_, fun id rs' hi => ?_, fun r hr => ?_, h.upn, h.now⟩
    · rw [h.opn id]
      unfold updI
      by_cases e : id = x.r.txn <;> simp [e, hrs]
    · unfold updI at hi
      dsimp only at hi ⊢
      rw [List.filter_append]
      by_cases e : id = x.r.txn
      · rw [if_pos e] at hi
        injection hi with hi
        rw [← hi, h.kept _ rs hrs, e]
        simp
      · rw [if_neg e] at hi
        rw [h.kept id rs' hi]
        have : ¬ x.r.txn = id := fun h => e h.symm
        simp [this]
    · unfold updI
      dsimp only
      by_cases e : r.txn = x.r.txn
      · simp [e]
      · rw [if_neg e]
        rcases List.mem_append.1 hr with hr | hr
        · exact h.all r hr
        · exact absurd (by rw [List.mem_singleton.1 hr]) e
  by_cases k4 : x.r.kind = 4
  · have e1 : modTake m x = ⟨m.now, m.opn, m.kept, x⟩ := by unfold modTake; simp [k4]
    have e2 : takeS s x = ⟨x.r.gsn, x.stream, s.now, s.opn⟩ := by unfold takeS; simp [k4]
    rw [e1, e2]
    exact ⟨rfl, rfl, h.up, h.opn, h.kept, h.all, h.upn, h.now⟩
  · obtain ⟨rs, hrs⟩ := Option.isSome_iff_exists.1 (ho k1)
    have hge : ¬ x.r.kind < 5 := by omega
    have h56 : x.r.kind = 5 ∨ x.r.kind = 6 := by omega
    obtain ⟨f1, f2⟩ := keep_fold x m.kept [] m.now s.now hnow
    have hw := with_out h.up x.r.txn
    have e1 : modTake m x = ⟨(m.kept.foldl (keepStep x) ([], m.now)).2, withF m.opn x.r.txn false, (m.kept.foldl (keepStep x) ([], m.now)).1, x⟩ := by unfold modTake; rw [if_neg hge]
    have e2 : takeS s x = ⟨x.r.gsn, x.stream, if x.r.kind = 5 then commitF s.now (m.kept.filter fun r => r.txn == x.r.txn) else s.now, updI s.opn x.r.txn none⟩ := by
      have hk := h.kept _ rs hrs
      unfold takeS
      rw [hrs, Option.getD_some, ← hk, if_neg k1, if_neg k2, if_pos h56]
    rw [e1, e2, f1]
    refine ⟨rfl, rfl, hw.1, fun id => ?_, fun id rs' hi => ?_, fun r hr => ?_, f2.1, f2.2⟩
    · rw [hw.2 id, h.opn id]
      unfold updI
      by_cases e : id = x.r.txn <;> simp [e]
    · unfold updI at hi
      dsimp only at hi ⊢
      by_cases e : id = x.r.txn
      · rw [if_pos e] at hi
        cases hi
      · rw [if_neg e] at hi
        rw [h.kept id rs' hi, List.nil_append, List.filter_filter]
        refine List.filter_congr fun r _ => ?_
        by_cases e' : r.txn = id
        · have : ¬ r.txn = x.r.txn := fun h => e (e' ▸ h)
          simp [e', e]
        · simp [e']
    · have hr' : r ∈ m.kept ∧ (r.txn != x.r.txn) = true := by
        simpa using hr
      unfold updI
      dsimp only
      rw [if_neg (by simpa using hr'.2)]
      exact h.all r hr'.1
end Go.Proofs.Ytbjpilnlkmajpaa
