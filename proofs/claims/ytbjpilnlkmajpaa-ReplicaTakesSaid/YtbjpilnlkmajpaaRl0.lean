import Derived.Test.YtbjpilnlkmajpaaMt
import Derived.Test.YtbjpilnlkmajpaaRef3
import Derived.Test.YtbjpilnlkmajpaaParts
namespace Go.Proofs.Ytbjpilnlkmajpaa
set_option linter.unusedVariables false
set_option linter.unusedSimpArgs false
open Go.RowKit Go.Maps Go.Proofs.K

def modsF : MS → List BR → Nat × Int × MS
  | m, [] => (0, 0, m)
  | m, x :: l => if modNo m x = 0 then ((modsF (modTake m x) l).1 + 1, (modsF (modTake m x) l).2) else (0, modNo m x, m)
theorem mods_like {s : RS} {m : MS} : ∀ (l : List BR) (s : RS) (m : MS), Like s m → (modsF m l).1 = (takesF s l).1 ∧ (modsF m l).2.1 = (takesF s l).2.1 ∧ Like (takesF s l).2.2 (modsF m l).2.2
  | [], s, m, h => ⟨rfl, rfl, h⟩
  | x :: l, s, m, h => by
    have e := no_like h x
    simp only [modsF, takesF]
    by_cases h0 : modNo m x = 0
    · rw [if_pos h0, if_pos (e ▸ h0)]
      obtain ⟨h1, h2, h3⟩ := mods_like (s := s) (m := m) l _ _ (take_like h x (e ▸ h0))
      exact ⟨by dsimp only; rw [h1], h2, h3⟩
    · rw [if_neg h0, if_neg (e ▸ h0)]
      exact ⟨rfl, e, h⟩
def PartM (m0 : MS) (l : List BR) (k : Nat) (fl : Int) (mb : MS) : Prop :=
  (fl = 0 ∧ modsF m0 l = (k + (modsF mb (l.drop k)).1, (modsF mb (l.drop k)).2)) ∨ (fl ≠ 0 ∧ modsF m0 l = (k, fl, mb))
theorem PartM.begin (m0 : MS) (l : List BR) : PartM m0 l 0 0 m0 := .inl ⟨rfl, by simp⟩
theorem PartM.yes {m0 mb : MS} {l : List BR} {k : Nat} (h : PartM m0 l k 0 mb) (hk : k < l.length) {x : BR} (hx : x = l[k]) (h0 : modNo mb x = 0) : PartM m0 l (k + 1) 0 (modTake mb x) := by
  rcases h with ⟨_, h⟩ | ⟨h, _⟩
  · rw [List.drop_eq_getElem_cons hk, ← hx] at h
    simp only [modsF] at h
    rw [if_pos h0] at h
    exact .inl ⟨rfl, by rw [h]; simp only [Prod.mk.injEq, and_true]; omega⟩
  · exact absurd rfl h
theorem PartM.no {m0 mb : MS} {l : List BR} {k : Nat} (h : PartM m0 l k 0 mb) (hk : k < l.length) {x : BR} (hx : x = l[k]) (h0 : modNo mb x ≠ 0) : PartM m0 l k (modNo mb x) mb := by
  rcases h with ⟨_, h⟩ | ⟨h, _⟩
  · rw [List.drop_eq_getElem_cons hk, ← hx] at h
    simp only [modsF] at h
    rw [if_neg h0] at h
    exact .inr ⟨h0, by rw [h]; rfl⟩
  · exact absurd rfl h
theorem PartM.done {m0 mb : MS} {l : List BR} {k : Nat} {fl : Int} (h : PartM m0 l k fl mb) (hk : fl = 0 → k = l.length) : modsF m0 l = (k, fl, mb) := by
  rcases h with ⟨h0, h⟩ | ⟨_, h⟩
  · subst h0
    obtain rfl := hk rfl
    rw [h, List.drop_length]
    simp [modsF]
  · exact h

def lastV (key : ByteArray) (v : VL) (c : CL) : VL := if (c.key.toList == key.toList) = true then ⟨true, c.val⟩ else v
theorem lastV_none {key : ByteArray} : ∀ (l : List CL) (v : VL), (∀ c ∈ l, c.key ≠ key) → l.foldl (lastV key) v = v
  | [], v, _ => rfl
  | c :: l, v, h => by
    have : ¬ c.key.toList = key.toList := fun e => h c (by simp) (toList_inj.1 e)
    rw [List.foldl_cons, show lastV key v c = v by unfold lastV; simp [this]]
    exact lastV_none l v fun c hc => h c (by simp [hc])
theorem lastV_like {f : ByteArray → Option ByteArray} {l : List CL} (h : LikeN f l) (key : ByteArray) : l.foldl (lastV key) ⟨false, ⟨#[]⟩⟩ = ⟨(f key).isSome, (f key).getD ⟨#[]⟩⟩ := by
  obtain ⟨hu, hm⟩ := h
  have key2 : ∀ (l : List CL) (v : VL) (x : CL), l.Pairwise klt → x ∈ l → x.key = key → l.foldl (lastV key) v = ⟨true, x.val⟩ := by
    intro l
    induction l with
    | nil => intro v x _ hx; cases hx
    | cons c l ih =>
      intro v x hp hx hk
      rw [List.foldl_cons]
      rw [List.pairwise_cons] at hp
      rcases List.mem_cons.1 hx with rfl | hx
      · have e : lastV key v x = ⟨true, x.val⟩ := by unfold lastV; simp [hk]
        rw [e]
        refine lastV_none l _ fun c hc e => ?_
        have := hp.1 c hc
        unfold klt at this
        rw [hk, e, less_irrefl] at this
        cases this
      · exact ih _ x hp.2 hx hk
  cases hf : f key with
  | none =>
    refine lastV_none l _ fun c hc e => ?_
    have : f key = some c.val := (hm key c.val).2 (by rw [← e]; exact hc)
    rw [hf] at this
    cases this
  | some v => exact key2 l _ ⟨key, v⟩ hu ((hm key v).1 hf) rfl
def setC (n : List CL) (c : CL) : List CL := setF n c.key ⟨true, c.val⟩
theorem new_like : ∀ (l : List CL) (f : ByteArray → Option ByteArray) (n : List CL), LikeN f n → LikeN (l.foldl (fun m c => updS m c.key (some c.val)) f) (l.foldl setC n)
  | [], f, n, h => h
  | c :: l, f, n, h => by
    rw [List.foldl_cons, List.foldl_cons]
    refine new_like l _ _ ?_
    have h1 := set_like h c.key ⟨true, c.val⟩
    rw [if_pos rfl] at h1
    have e : updS (updS f c.key none) c.key (some c.val) = updS f c.key (some c.val) := by
      funext k
      unfold updS
      by_cases e : k = c.key <;> simp [e]
    rw [e] at h1
    exact h1
theorem setC_len : ∀ (l : List CL) (n : List CL), (l.foldl setC n).length ≤ n.length + l.length
  | [], n => by simp
  | c :: l, n => by
    rw [List.foldl_cons]
    refine Nat.le_trans (setC_len l _) ?_
    have := put_length (fun y => !(Op.bytesLess y.key.toList c.key.toList)) (fun y => y.key.toList != c.key.toList) ⟨c.key, c.val⟩ true n
    unfold setC setF
    simp only [List.length_cons]
    omega
def zR : RC := ⟨0, 0, 0, 0, 0, ⟨#[]⟩, ⟨false, ⟨#[]⟩⟩, ⟨false, ⟨#[]⟩⟩, 0⟩
def zB : BR := ⟨-1, zR⟩
theorem begin_like (l : List CL) : Like (newS l) ⟨l.foldl setC [], [], [], zB⟩ := by
  have h := new_like l _ _ likeN_nil
  exact ⟨rfl, rfl, List.Pairwise.nil, fun id => by simp [newS], (fun id rs h => by cases h), (fun r hr => by cases hr), h.1, h.2⟩
theorem keys_like {f : ByteArray → Option ByteArray} {l : List CL} {ks : List ByteArray} (h : LikeN f l) (hk : KeysS f ks) : cellsOf f ks = l := by
  obtain ⟨hu, hm⟩ := h
  have hks : KeysS f (l.map (·.key)) := by
    refine ⟨?_, ?_, fun k => ?_⟩
    · rw [List.pairwise_map]
      refine hu.imp fun {a b} hab => ?_
      unfold klt at hab
      rw [less_eq] at hab
      have := of_decide_eq_true hab
      rw [ByteArray.toList_eq, ByteArray.toList_eq] at this
      exact List.le_of_lt this
    · rw [List.Nodup, List.pairwise_map]
      refine hu.imp fun {a b} hab e => ?_
      unfold klt at hab
      rw [e, less_irrefl] at hab
      cases hab
    · rw [List.mem_map]
      constructor
      · rintro ⟨c, hc, rfl⟩
        rw [(hm c.key c.val).2 hc]
        rfl
      · intro h
        obtain ⟨v, hv⟩ := Option.isSome_iff_exists.1 h
        exact ⟨⟨k, v⟩, (hm k v).1 hv, rfl⟩
  have := hk.unique hks fun _ => rfl
  rw [this]
  unfold cellsOf
  rw [List.map_map]
  conv => rhs; rw [← List.map_id l]
  refine List.map_congr_left fun c hc => ?_
  have : f c.key = some c.val := (hm c.key c.val).2 hc
  simp [this]
theorem opens_like {s : RS} {m : MS} {ks : List Int} (h : Like s m) (hk : KeysI s.opn ks) : ks = m.opn :=
  hk.unique (m := s.opn) (m' := s.opn) ⟨h.up.imp fun {a b} hab => Int.le_of_lt hab, h.up.imp fun {a b} hab e => by rw [e] at hab; exact Int.lt_irrefl _ hab, fun k => h.opn k⟩ fun _ => rfl

/-- The law's loop: what holds at a round's head. -/
structure LT (w W : World) (pr pm t : Nat) (FR FM : Nat → Prop) (s : RS) (m : MS) : Prop where
  rep : IsRep W pr (20 + t * 60) t FR s
  mod : IsMod W pm (20 + t * 60) t FM m
  like : Like s m
  fr : ∀ k, FR k → w.heap.size ≤ k ∧ k < W.heap.size ∧ ¬ FM k
  fm : ∀ k, FM k → w.heap.size ≤ k ∧ k < W.heap.size
  bl : Below w.heap.size w W
theorem LT.below {w W W1 : World} {pr pm t : Nat} {FR FM : Nat → Prop} {s : RS} {m : MS} (h : LT w W pr pm t FR FM s m) (hb : Below W.heap.size W W1) : LT w W1 pr pm t FR FM s m :=
  ⟨h.rep.chg (Chg.of_below (F := fun _ => False) hb) (fun _ _ h => h), h.mod.chg (Chg.of_below (F := fun _ => False) hb) (fun _ _ h => h), h.like, fun k hk => ⟨(h.fr k hk).1, Nat.lt_of_lt_of_le (h.fr k hk).2.1 hb.size, (h.fr k hk).2.2⟩, fun k hk => ⟨(h.fm k hk).1, Nat.lt_of_lt_of_le (h.fm k hk).2 hb.size⟩, below_then h.bl h.bl.size hb⟩
theorem row_cut {A' : Option Addr} {l' : List BR} {c' K : Nat} {w : World} (h : RowOf encBR 12 w A' l') (hlc : l'.length ≤ c') (hK : K ≤ l'.length) : RowOf encBR 12 w (if c' = K then A' else A'.map (·.add (K * 12))) (l'.drop K) := by
  by_cases e : c' = K
  · rw [if_pos e, List.drop_of_length_le (by omega)]
    exact RowOf.nil _ _
  · rw [if_neg e]
    rcases Nat.eq_zero_or_pos l'.length with h0 | h0
    · rw [List.eq_nil_of_length_eq_zero h0, List.drop_nil]
      exact RowOf.nil _ _
    · obtain ⟨b, off, rfl, _⟩ := h 0 h0
      have := h.drop K
      have ea : (⟨b, off, none⟩ : Addr).add (K * 12) = ⟨b, off + K * 12, none⟩ := by
        unfold Addr.add
        split <;> simp <;> omega
      rw [Option.map_some, ea]
      exact this
/-- While a portion is taken by the model. -/
structure LM (w W : World) (pr pm t q : Nat) (FR FM : Nat → Prop) (s : RS) (m : MS) : Prop where
  rep : IsRep W pr (20 + t * 60) t FR s
  mod : IsMod W pm (20 + (t + q) * 60) (t + q) FM m
  fr : ∀ k, FR k → w.heap.size ≤ k ∧ k < W.heap.size ∧ ¬ FM k
  fm : ∀ k, FM k → w.heap.size ≤ k ∧ k < W.heap.size
  bl : Below w.heap.size w W
theorem LM.step {w W W1 : World} {pr pm t q : Nat} {FR FM : Nat → Prop} {s : RS} {m m' : MS} (h : LM w W pr pm t q FR FM s m) (hq : t + q ≤ 60) (hm : IsMod W1 pm ((20 + (t + q) * 60) + (t + q)) (t + q + 1) (fun k => FM k ∨ W.heap.size ≤ k) m') (hc : Chg FM W W1) :
    LM w W1 pr pm t (q + 1) FR (fun k => (FM k ∨ W.heap.size ≤ k) ∧ k < W1.heap.size) s m' := by
  have hs := hc.size
  refine ⟨h.rep.chg hc (fun k hk => (h.fr k hk).2.2), (hm.tight.mono (by omega) (by omega) (fun _ h => h)), fun k hk => ⟨(h.fr k hk).1, by have := (h.fr k hk).2.1; omega, fun hf => ?_⟩, fun k hk => ⟨?_, hk.2⟩, ((Chg.of_below (F := fun k => w.heap.size ≤ k) h.bl).trans hc (fun k _ hk => (h.fm k hk).1)).below (fun k hk e => by omega)⟩
  · have h1 := h.fr k hk
    rcases hf.1 with hf | hf
    · exact h1.2.2 hf
    · omega
  · have := h.bl.size
    rcases hk.1 with hk | hk
    · exact (h.fm k hk).1
    · omega
theorem own_row {α : Type} {enc : α → List Value} {e sz : Nat} {w : World} {base n c : Nat} {A : Option Addr} {l : List α} (h : Own enc e sz w base (.slice A n c) l) (hs : ∀ x, (enc x).length = sz) : RowOf enc sz w A l ∧ n = l.length := by
  obtain ⟨A2, c2, hv, _, _, hr⟩ := h.reads hs
  injection hv with h1 h2 h3
  subst h1 h2
  exact ⟨hr, rfl⟩
/-- While the answers are told. -/
structure LV (w W : World) (bv pr pm t : Nat) (FR FM : Nat → Prop) (s : RS) (m : MS) (vn vo vk : Value) (v : VL) : Prop where
  rep : IsRep W pr (20 + t * 60) t FR s
  mod : ModAt W pm (20 + t * 60) t FM m vn vo vk
  like : Like s m
  fr : ∀ k, FR k → w.heap.size ≤ k ∧ k < bv ∧ ¬ FM k
  fm : ∀ k, FM k → w.heap.size ≤ k ∧ k < bv
  bl : Below w.heap.size w W
  vb : Blk W bv 29 (encVal v)
  hb : w.heap.size ≤ bv
theorem ModAt.chg {w w1 : World} {p N M : Nat} {F G : Nat → Prop} {m : MS} {vn vo vk : Value} (h : ModAt w p N M F m vn vo vk) (c : Chg G w w1) (hG : ∀ k, F k → ¬ G k) : ModAt w1 p N M F m vn vo vk :=
  ⟨h.blk.chg c (hG _ h.fp), h.now.chg c (fun k hk => hG _ (h.fn k hk)), h.opn.chg c (fun k hk => hG _ (h.fo k hk)), h.kept.chg c (fun k hk => hG _ (h.fk k hk)), h.fp, h.fn, h.fo, h.fk, h.ln, h.lo, h.lk⟩
section
variable {w W W1 : World} {bv pr pm t : Nat} {FR FM : Nat → Prop} {s : RS} {m : MS} {vn vo vk : Value} {v : VL}
theorem LV.below (h : LV w W bv pr pm t FR FM s m vn vo vk v) (hb : Below W.heap.size W W1) : LV w W1 bv pr pm t FR FM s m vn vo vk v :=
  ⟨h.rep.chg (Chg.of_below (F := fun _ => False) hb) (fun _ _ h => h), h.mod.chg (Chg.of_below (F := fun _ => False) hb) (fun _ _ h => h), h.like, h.fr, h.fm, below_then h.bl h.bl.size hb, h.vb.below hb, h.hb⟩
theorem LV.set (h : LV w W bv pr pm t FR FM s m vn vo vk v) (v' : VL) : LV w ((W.setCell ⟨bv, 0, none⟩ (.bool v'.has)).setCell ⟨bv, 1, none⟩ (.string v'.s)) bv pr pm t FR FM s m vn vo vk v' := by
  have hc : Chg (fun k => k = bv) W ((W.setCell ⟨bv, 0, none⟩ (.bool v'.has)).setCell ⟨bv, 1, none⟩ (.string v'.s)) := ((Chg.refl (fun k => k = bv) W).setCell (p := ⟨bv, 0, none⟩) rfl _).setCell (p := ⟨bv, 1, none⟩) rfl _
  exact ⟨h.rep.chg hc (fun k hk e => by have := (h.fr k hk).2.1; omega), h.mod.chg hc (fun k hk e => by have := (h.fm k hk).2; omega), h.like, h.fr, h.fm, ((Chg.of_below (F := fun k => k = bv) h.bl).trans hc (fun _ _ h => h)).below (fun k hk e => by have := h.hb; omega), (h.vb.set 0 _).set 1 _, h.hb⟩
theorem LV.c0 (h : LV w W bv pr pm t FR FM s m vn vo vk v) : W.cell? ⟨pm, 0, none⟩ = some vn := h.mod.blk.cell 0
theorem LV.c1 (h : LV w W bv pr pm t FR FM s m vn vo vk v) : W.cell? ⟨pm, 1, none⟩ = some vo := h.mod.blk.cell 1
theorem LV.l0 (h : LV w W bv pr pm t FR FM s m vn vo vk v) : W.cell? ⟨pm, 3, none⟩ = some (.int .i64 m.last.stream) := h.mod.blk.cell 3
theorem LV.l2 (h : LV w W bv pr pm t FR FM s m vn vo vk v) : W.cell? ⟨pm, 5, none⟩ = some (.int .i64 m.last.r.gsn) := h.mod.blk.cell 5
theorem LV.b0 (h : LV w W bv pr pm t FR FM s m vn vo vk v) : W.cell? ⟨bv, 0, none⟩ = some (.bool v.has) := h.vb.cell 0
theorem LV.b1 (h : LV w W bv pr pm t FR FM s m vn vo vk v) : W.cell? ⟨bv, 1, none⟩ = some (.string v.s) := h.vb.cell 1
theorem LV.toT (h : LV w W bv pr pm t FR FM s m vn vo vk v) : LT w W pr pm t FR FM s m :=
  ⟨h.rep, ⟨vn, vo, vk, h.mod⟩, h.like, fun k hk => ⟨(h.fr k hk).1, by have := (h.fr k hk).2.1; have := h.vb.lt; omega, (h.fr k hk).2.2⟩, fun k hk => ⟨(h.fm k hk).1, by have := (h.fm k hk).2; have := h.vb.lt; omega⟩, h.bl⟩
end
end Go.Proofs.Ytbjpilnlkmajpaa
