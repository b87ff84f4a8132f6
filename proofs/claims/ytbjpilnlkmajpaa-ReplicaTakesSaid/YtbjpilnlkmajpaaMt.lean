import Derived.Test.YtbjpilnlkmajpaaMdr
namespace Go.Proofs.Ytbjpilnlkmajpaa
set_option linter.unusedVariables false
set_option linter.unusedSimpArgs false
open Go.RowKit Go.Maps Go.Proofs.K

/-- A model in memory: its blocks are F's. -/
structure ModAt (w : World) (p N M : Nat) (F : Nat → Prop) (m : MS) (vn vo vk : Value) : Prop where
  blk : Blk w p 37 (vn :: vo :: vk :: encBR m.last)
  now : Own encCell 39 2 w 0 vn m.now
  opn : Own encInt 3 1 w 0 vo m.opn
  kept : Own encRec 31 11 w 0 vk m.kept
  fp : F p
  fn : ∀ k, vn.ownBlock = some k → F k
  fo : ∀ k, vo.ownBlock = some k → F k
  fk : ∀ k, vk.ownBlock = some k → F k
  ln : m.now.length ≤ N
  lo : m.opn.length ≤ M
  lk : m.kept.length ≤ M
def IsMod (w : World) (p N M : Nat) (F : Nat → Prop) (m : MS) : Prop := ∃ vn vo vk, ModAt w p N M F m vn vo vk
theorem IsMod.mono {w : World} {p N M N' M' : Nat} {F F' : Nat → Prop} {m : MS} (h : IsMod w p N M F m) (hN : N ≤ N') (hM : M ≤ M') (hF : ∀ k, F k → F' k) : IsMod w p N' M' F' m := by
  obtain ⟨vn, vo, vk, h⟩ := h
  exact ⟨vn, vo, vk, h.blk, h.now, h.opn, h.kept, hF _ h.fp, fun k hk => hF _ (h.fn k hk), fun k hk => hF _ (h.fo k hk), fun k hk => hF _ (h.fk k hk), Nat.le_trans h.ln hN, Nat.le_trans h.lo hM, Nat.le_trans h.lk hM⟩
theorem IsMod.chg {w w1 : World} {p N M : Nat} {F G : Nat → Prop} {m : MS} (h : IsMod w p N M F m) (c : Chg G w w1) (hG : ∀ k, F k → ¬ G k) : IsMod w1 p N M F m := by
  obtain ⟨vn, vo, vk, h⟩ := h
  exact ⟨vn, vo, vk, h.blk.chg c (hG _ h.fp), h.now.chg c (fun k hk => hG _ (h.fn k hk)), h.opn.chg c (fun k hk => hG _ (h.fo k hk)), h.kept.chg c (fun k hk => hG _ (h.fk k hk)), h.fp, h.fn, h.fo, h.fk, h.ln, h.lo, h.lk⟩
theorem IsMod.tight {w : World} {p N M : Nat} {F : Nat → Prop} {m : MS} (h : IsMod w p N M F m) : IsMod w p N M (fun k => F k ∧ k < w.heap.size) m := by
  obtain ⟨vn, vo, vk, h⟩ := h
  exact ⟨vn, vo, vk, h.blk, h.now, h.opn, h.kept, ⟨h.fp, h.blk.lt⟩, fun k hk => ⟨h.fn k hk, (h.now.lt k hk).2⟩, fun k hk => ⟨h.fo k hk, (h.opn.lt k hk).2⟩, fun k hk => ⟨h.fk k hk, (h.kept.lt k hk).2⟩, h.ln, h.lo, h.lk⟩
theorem own_ne {α : Type} {enc : α → List Value} {e sz t p : Nat} {w : World} {base : Nat} {v : Value} {l : List α} {cs : List Value} (h : Own enc e sz w base v l) (hb : Blk w p t cs) (hne : ¬ e = t) : ∀ k, v.ownBlock = some k → ¬ k = p := by
  rintro k hk rfl
  rcases h.2 with ⟨rfl, _⟩ | ⟨g, cap, cur, rfl, _, hh, _⟩
  · simp [Value.ownBlock] at hk
  · have : g = k := by simpa [Value.ownBlock] using hk
    subst this
    unfold Blk at hb
    rw [hb] at hh
    injection hh with hh
    injection hh with _ ht
    exact hne ht.symm
theorem own_own {α β : Type} {enc : α → List Value} {enc' : β → List Value} {e sz e' sz' : Nat} {w : World} {base base' : Nat} {v v' : Value} {l : List α} {l' : List β} (h : Own enc e sz w base v l) (h' : Own enc' e' sz' w base' v' l') (hne : ¬ e = e') : ∀ k, v.ownBlock = some k → v'.ownBlock ≠ some k := by
  intro k hk hk'
  rcases h.2 with ⟨rfl, _⟩ | ⟨g, cap, cur, rfl, _, hh, _⟩
  · simp [Value.ownBlock] at hk
  · have : g = k := by simpa [Value.ownBlock] using hk
    subst this
    rcases h'.2 with ⟨rfl, _⟩ | ⟨g', cap', cur', rfl, _, hh', _⟩
    · simp [Value.ownBlock] at hk'
    · have : g' = g := by simpa [Value.ownBlock] using hk'
      subst this
      rw [hh] at hh'
      injection hh' with hh'
      injection hh' with _ ht
      exact hne ht

theorem has_own {base : Nat} {v : Value} {l : List Int} (n : Int) (w : World) (h : Own encInt 3 1 w base v l) (hl : l.length ≤ 1000000000) :
    Calls Try.prog 19 #[v, .int .i64 n] w fun e w' => e = .returned (.bool (hasF l n)) ∧ Below w.heap.size w w' := by
  obtain ⟨A, c, rfl, _, _, hr⟩ := h.reads (fun _ => rfl)
  exact has_calls A c l n w hr (by omega)
theorem with_own {base : Nat} {v : Value} {l : List Int} (n : Int) (inn : Bool) (w : World) (h : Own encInt 3 1 w base v l) (hl : l.length ≤ 1000000000) :
    Calls Try.prog 22 #[v, .int .i64 n, .bool inn] w fun e w' => ∃ v, e = .returned v ∧ Own encInt 3 1 w' w.heap.size v (withF l n inn) ∧ Below w.heap.size w w' := by
  obtain ⟨A, c, rfl, _, _, hr⟩ := h.reads (fun _ => rfl)
  exact with_calls A c l n inn w hr hl
theorem set_own {base : Nat} {v : Value} {l : List CL} (key : ByteArray) (val : VL) (w : World) (h : Own encCell 39 2 w base v l) (hl : l.length ≤ 1000000000) :
    Calls Try.prog 7 #[v, .string key, .agg #[.bool val.has, .string val.s]] w fun e w' => ∃ v, e = .returned v ∧ Own encCell 39 2 w' w.heap.size v (setF l key val) ∧ Below w.heap.size w w' := by
  obtain ⟨A, c, rfl, _, _, hr⟩ := h.reads (fun _ => rfl)
  exact set_calls A c l key val w hr hl
theorem keep_len (x : BR) (now : List CL) : ∀ (kept : List RC), (kept.foldl (keepStep x) ([], now)).1.length ≤ kept.length ∧ (kept.foldl (keepStep x) ([], now)).2.length ≤ now.length + kept.length := by
  have key : ∀ (kept rest : List RC) (now : List CL), (kept.foldl (keepStep x) (rest, now)).1.length ≤ rest.length + kept.length ∧ (kept.foldl (keepStep x) (rest, now)).2.length ≤ now.length + kept.length := by
    intro kept
    induction kept with
    | nil => intro rest now; simp
    | cons r kept ih =>
      intro rest now
      rw [List.foldl_cons]
      have := ih (keepStep x (rest, now) r).1 (keepStep x (rest, now) r).2
      rw [show ((keepStep x (rest, now) r).1, (keepStep x (rest, now) r).2) = keepStep x (rest, now) r from rfl] at this
      have hs := put_length (fun c => !(Op.bytesLess c.key.toList r.key.toList)) (fun c => c.key.toList != r.key.toList) ⟨r.key, r.aft.s⟩ r.aft.has now
      have h1 : (keepStep x (rest, now) r).1.length ≤ rest.length + 1 := by (unfold keepStep; split; (simp); (split <;> simp))
      have h2 : (keepStep x (rest, now) r).2.length ≤ now.length + 1 := by
        unfold keepStep
        split
        · simp
        · split
          · exact hs
          · simp
      simp only [List.length_cons]
      omega
  intro kept
  simpa using key kept [] now

/-- What a model is behind a record. -/
def MTQ (p N M : Nat) (F : Nat → Prop) (m : MS) (x : BR) (w : World) (no : Int) (w' : World) : Prop := IsMod w' p (N + M) (M + 1) (fun k => F k ∨ w.heap.size ≤ k) (if no = 0 then modTake m x else m)
theorem MTQ.no {p N M : Nat} {F : Nat → Prop} {m : MS} {x : BR} {w w' : World} {no : Int} {vn vo vk : Value} (h : ModAt w p N M F m vn vo vk) (hb : Below w.heap.size w w') (hn : no ≠ 0) : MTQ p N M F m x w no w' := by
  unfold MTQ
  rw [if_neg hn]
  exact ⟨vn, vo, vk, h.blk.below hb, h.now.below hb, h.opn.below hb, h.kept.below hb, .inl h.fp, fun k hk => .inl (h.fn k hk), fun k hk => .inl (h.fo k hk), fun k hk => .inl (h.fk k hk), by have := h.ln; omega, by have := h.lo; omega, by have := h.lk; omega⟩

/-- What holds while a record is taken. -/
structure MT (w W : World) (p : Nat) (vn vo vk : Value) (l x : BR) : Prop where
  bp : Blk W p 37 (vn :: vo :: vk :: encBR l)
  bx : Blk W w.heap.size 33 (encBR x)
  bl : Below w.heap.size w W
section
variable {w W W1 : World} {p : Nat} {vn vo vk : Value} {l x : BR}
theorem MT.c0 (h : MT w W p vn vo vk l x) : W.cell? ⟨p, 0, none⟩ = some vn := h.bp.cell 0
theorem MT.c1 (h : MT w W p vn vo vk l x) : W.cell? ⟨p, 1, none⟩ = some vo := h.bp.cell 1
theorem MT.c2 (h : MT w W p vn vo vk l x) : W.cell? ⟨p, 2, none⟩ = some vk := h.bp.cell 2
theorem MT.x0 (h : MT w W p vn vo vk l x) : W.cell? ⟨w.heap.size, 0, none⟩ = some (.int .i64 x.stream) := h.bx.cell 0
theorem MT.x1 (h : MT w W p vn vo vk l x) : W.cell? ⟨w.heap.size, 1, none⟩ = some (.int .i64 x.r.kind) := h.bx.cell 1
theorem MT.x2 (h : MT w W p vn vo vk l x) : W.cell? ⟨w.heap.size, 2, none⟩ = some (.int .i64 x.r.gsn) := h.bx.cell 2
theorem MT.x3 (h : MT w W p vn vo vk l x) : W.cell? ⟨w.heap.size, 3, none⟩ = some (.int .i64 x.r.txn) := h.bx.cell 3
theorem MT.x4 (h : MT w W p vn vo vk l x) : W.cell? ⟨w.heap.size, 4, none⟩ = some (.int .i64 x.r.prev) := h.bx.cell 4
theorem MT.x5 (h : MT w W p vn vo vk l x) : W.cell? ⟨w.heap.size, 5, none⟩ = some (.int .i64 x.r.page) := h.bx.cell 5
theorem MT.x6 (h : MT w W p vn vo vk l x) : W.cell? ⟨w.heap.size, 6, none⟩ = some (.string x.r.key) := h.bx.cell 6
theorem MT.x7 (h : MT w W p vn vo vk l x) : W.cell? ⟨w.heap.size, 7, none⟩ = some (.bool x.r.bef.has) := h.bx.cell 7
theorem MT.x8 (h : MT w W p vn vo vk l x) : W.cell? ⟨w.heap.size, 8, none⟩ = some (.string x.r.bef.s) := h.bx.cell 8
theorem MT.x9 (h : MT w W p vn vo vk l x) : W.cell? ⟨w.heap.size, 9, none⟩ = some (.bool x.r.aft.has) := h.bx.cell 9
theorem MT.x10 (h : MT w W p vn vo vk l x) : W.cell? ⟨w.heap.size, 10, none⟩ = some (.string x.r.aft.s) := h.bx.cell 10
theorem MT.x11 (h : MT w W p vn vo vk l x) : W.cell? ⟨w.heap.size, 11, none⟩ = some (.int .i64 x.r.undo) := h.bx.cell 11
theorem MT.l0 (h : MT w W p vn vo vk l x) : W.cell? ⟨p, 3, none⟩ = some (.int .i64 l.stream) := h.bp.cell 3
theorem MT.l1 (h : MT w W p vn vo vk l x) : W.cell? ⟨p, 4, none⟩ = some (.int .i64 l.r.kind) := h.bp.cell 4
theorem MT.l2 (h : MT w W p vn vo vk l x) : W.cell? ⟨p, 5, none⟩ = some (.int .i64 l.r.gsn) := h.bp.cell 5
theorem MT.l3 (h : MT w W p vn vo vk l x) : W.cell? ⟨p, 6, none⟩ = some (.int .i64 l.r.txn) := h.bp.cell 6
theorem MT.l4 (h : MT w W p vn vo vk l x) : W.cell? ⟨p, 7, none⟩ = some (.int .i64 l.r.prev) := h.bp.cell 7
theorem MT.l5 (h : MT w W p vn vo vk l x) : W.cell? ⟨p, 8, none⟩ = some (.int .i64 l.r.page) := h.bp.cell 8
theorem MT.l6 (h : MT w W p vn vo vk l x) : W.cell? ⟨p, 9, none⟩ = some (.string l.r.key) := h.bp.cell 9
theorem MT.l7 (h : MT w W p vn vo vk l x) : W.cell? ⟨p, 10, none⟩ = some (.bool l.r.bef.has) := h.bp.cell 10
theorem MT.l8 (h : MT w W p vn vo vk l x) : W.cell? ⟨p, 11, none⟩ = some (.string l.r.bef.s) := h.bp.cell 11
theorem MT.l9 (h : MT w W p vn vo vk l x) : W.cell? ⟨p, 12, none⟩ = some (.bool l.r.aft.has) := h.bp.cell 12
theorem MT.l10 (h : MT w W p vn vo vk l x) : W.cell? ⟨p, 13, none⟩ = some (.string l.r.aft.s) := h.bp.cell 13
theorem MT.l11 (h : MT w W p vn vo vk l x) : W.cell? ⟨p, 14, none⟩ = some (.int .i64 l.r.undo) := h.bp.cell 14
theorem MT.below (h : MT w W p vn vo vk l x) (hb : Below W.heap.size W W1) : MT w W1 p vn vo vk l x := ⟨h.bp.below hb, h.bx.below hb, below_then h.bl h.bl.size hb⟩
theorem MT.drew (h : MT w W p vn vo vk l x) : MT w W.drew p vn vo vk l x := h.below (bl_drew (Below.refl _ _))
theorem MT.alloc (h : MT w W p vn vo vk l x) (o : Obj) : MT w (W.alloc o) p vn vo vk l x := h.below (bl_alloc (Below.refl _ _) o)
end

theorem wpN_gen {P : Program} {md : Region.Mode} {ops : Array Oper} {Q : Exit → Act → World → Prop} {S : World → Prop} {n k : Nat} {ls : Array Bool} {a : Act} {w : World} (I : World → Prop) (h : I w) (hk : ∀ W, I W → wpAnyN P md ops Q S n k ls a W) : wpAnyN P md ops Q S n k ls a w := hk w h
theorem then_gen {K : Act → World → Prop} {Q : Exit → Act → World → Prop} {e : Exit} {a : Act} {w : World} (I : World → Prop) (h : I w) (hk : ∀ W, I W → Exit.then K Q e a W) : Exit.then K Q e a w := hk w h
/-- What holds once the record is the last one. -/
structure MU (G : Nat → Prop) (w W : World) (p : Nat) (vn vo vk : Value) (x : BR) : Prop where
  bp : Blk W p 37 (vn :: vo :: vk :: encBR x)
  bx : Blk W w.heap.size 33 (encBR x)
  ch : Chg G w W
  gp : G p
section
variable {G : Nat → Prop} {w W W1 : World} {p : Nat} {vn vo vk : Value} {x : BR}
theorem MU.c0 (h : MU G w W p vn vo vk x) : W.cell? ⟨p, 0, none⟩ = some vn := h.bp.cell 0
theorem MU.c1 (h : MU G w W p vn vo vk x) : W.cell? ⟨p, 1, none⟩ = some vo := h.bp.cell 1
theorem MU.c2 (h : MU G w W p vn vo vk x) : W.cell? ⟨p, 2, none⟩ = some vk := h.bp.cell 2
theorem MU.x0 (h : MU G w W p vn vo vk x) : W.cell? ⟨w.heap.size, 0, none⟩ = some (.int .i64 x.stream) := h.bx.cell 0
theorem MU.x1 (h : MU G w W p vn vo vk x) : W.cell? ⟨w.heap.size, 1, none⟩ = some (.int .i64 x.r.kind) := h.bx.cell 1
theorem MU.x2 (h : MU G w W p vn vo vk x) : W.cell? ⟨w.heap.size, 2, none⟩ = some (.int .i64 x.r.gsn) := h.bx.cell 2
theorem MU.x3 (h : MU G w W p vn vo vk x) : W.cell? ⟨w.heap.size, 3, none⟩ = some (.int .i64 x.r.txn) := h.bx.cell 3
theorem MU.x4 (h : MU G w W p vn vo vk x) : W.cell? ⟨w.heap.size, 4, none⟩ = some (.int .i64 x.r.prev) := h.bx.cell 4
theorem MU.x5 (h : MU G w W p vn vo vk x) : W.cell? ⟨w.heap.size, 5, none⟩ = some (.int .i64 x.r.page) := h.bx.cell 5
theorem MU.x6 (h : MU G w W p vn vo vk x) : W.cell? ⟨w.heap.size, 6, none⟩ = some (.string x.r.key) := h.bx.cell 6
theorem MU.x7 (h : MU G w W p vn vo vk x) : W.cell? ⟨w.heap.size, 7, none⟩ = some (.bool x.r.bef.has) := h.bx.cell 7
theorem MU.x8 (h : MU G w W p vn vo vk x) : W.cell? ⟨w.heap.size, 8, none⟩ = some (.string x.r.bef.s) := h.bx.cell 8
theorem MU.x9 (h : MU G w W p vn vo vk x) : W.cell? ⟨w.heap.size, 9, none⟩ = some (.bool x.r.aft.has) := h.bx.cell 9
theorem MU.x10 (h : MU G w W p vn vo vk x) : W.cell? ⟨w.heap.size, 10, none⟩ = some (.string x.r.aft.s) := h.bx.cell 10
theorem MU.x11 (h : MU G w W p vn vo vk x) : W.cell? ⟨w.heap.size, 11, none⟩ = some (.int .i64 x.r.undo) := h.bx.cell 11
theorem MU.below (h : MU G w W p vn vo vk x) (hb : Below W.heap.size W W1) : MU G w W1 p vn vo vk x := ⟨h.bp.below hb, h.bx.below hb, h.ch.trans (Chg.of_below (F := fun _ => False) hb) (fun _ _ h => h.elim), h.gp⟩
theorem MU.drew (h : MU G w W p vn vo vk x) : MU G w W.drew p vn vo vk x := h.below (bl_drew (Below.refl _ _))
theorem MU.drewN (h : MU G w W p vn vo vk x) (n : Nat) : MU G w (W.drewN n) p vn vo vk x := h.below (bl_drewN (Below.refl _ _) n)
theorem MU.alloc (h : MU G w W p vn vo vk x) (o : Obj) : MU G w (W.alloc o) p vn vo vk x := h.below (bl_alloc (Below.refl _ _) o)
theorem MU.set0 (h : MU G w W p vn vo vk x) (hp : ¬ p = w.heap.size) (v : Value) : MU G w (W.setCell ⟨p, 0, none⟩ v) p v vo vk x := ⟨h.bp.set 0 v, h.bx.set_other (fun e => hp e.symm) v, h.ch.setCell h.gp v, h.gp⟩
theorem MU.set1 (h : MU G w W p vn vo vk x) (hp : ¬ p = w.heap.size) (v : Value) : MU G w (W.setCell ⟨p, 1, none⟩ v) p vn v vk x := ⟨h.bp.set 1 v, h.bx.set_other (fun e => hp e.symm) v, h.ch.setCell h.gp v, h.gp⟩
theorem MU.set2 (h : MU G w W p vn vo vk x) (hp : ¬ p = w.heap.size) (v : Value) : MU G w (W.setCell ⟨p, 2, none⟩ v) p vn vo v x := ⟨h.bp.set 2 v, h.bx.set_other (fun e => hp e.symm) v, h.ch.setCell h.gp v, h.gp⟩
theorem MU.mono {G' : Nat → Prop} (h : MU G w W p vn vo vk x) (hG : ∀ k, G k → G' k) : MU G' w W p vn vo vk x := ⟨h.bp, h.bx, h.ch.mono (fun k _ => hG k), hG _ h.gp⟩
theorem MU.chg {E : Nat → Prop} (h : MU G w W p vn vo vk x) (c : Chg E W W1) (hE : ∀ k, k < w.heap.size → E k → G k) (h1 : ¬ E p) (h2 : ¬ E w.heap.size) : MU G w W1 p vn vo vk x :=
  ⟨h.bp.chg c h1, h.bx.chg c h2, h.ch.trans c hE, h.gp⟩
theorem MTQ.yes {N M : Nat} {F : Nat → Prop} {m : MS} {vn' vo' vk' : Value} (h : ModAt w p N M F m vn vo vk) (hu : MU G w W p vn' vo' vk' x) {nw : List CL} {op : List Int} {kp : List RC} (hm : modTake m x = ⟨nw, op, kp, x⟩)
    (h1 : Own encCell 39 2 W 0 vn' nw) (b1 : ∀ k, vn'.ownBlock = some k → F k ∨ w.heap.size ≤ k) (l1 : nw.length ≤ N + M) (h2 : Own encInt 3 1 W 0 vo' op) (b2 : ∀ k, vo'.ownBlock = some k → F k ∨ w.heap.size ≤ k) (l2 : op.length ≤ M + 1)
    (h3 : Own encRec 31 11 W 0 vk' kp) (b3 : ∀ k, vk'.ownBlock = some k → F k ∨ w.heap.size ≤ k) (l3 : kp.length ≤ M + 1) : MTQ p N M F m x w 0 W := by
  unfold MTQ
  rw [if_pos rfl, hm]
  exact ⟨vn', vo', vk', hu.bp, h1, h2, h3, .inl h.fp, b1, b2, b3, l1, l2, l3⟩
/-- What holds in the loop over what was kept. -/
structure LP (F : Nat → Prop) (w W4 W : World) (p : Nat) (vn vo vk r : Value) (x : BR) (s : List RC × List CL) : Prop where
  u : MU (fun k => k = p) w W p vn vo vk x
  c : Chg (fun k => k = p) W4 W
  r : Own encRec 31 11 W W4.heap.size r s.1
  n : Own encCell 39 2 W 0 vn s.2
  b : ∀ j, vn.ownBlock = some j → F j ∨ w.heap.size ≤ j
theorem LP.below {F : Nat → Prop} {W4 : World} {r : Value} {s : List RC × List CL} (h : LP F w W4 W p vn vo vk r x s) (hb : Below W.heap.size W W1) : LP F w W4 W1 p vn vo vk r x s :=
  ⟨h.u.below hb, h.c.trans (Chg.of_below (F := fun _ => False) hb) (fun _ _ h => h.elim), h.r.below hb, h.n.below hb, h.b⟩
theorem LP.push {F : Nat → Prop} {W4 : World} {r r' : Value} {s : List RC × List CL} {y : RC} (h : LP F w W4 W p vn vo vk r x s) (hc : Chg (fun k => some k = r.ownBlock) W W1) (ho : Own encRec 31 11 W1 W4.heap.size r' (s.1 ++ [y]))
    (hp : p < W4.heap.size) (hw : w.heap.size < W4.heap.size) : LP F w W4 W1 p vn vo vk r' x (s.1 ++ [y], s.2) := by
  have hlt := fun k (hk : some k = r.ownBlock) => (h.r.lt k hk.symm).1
  refine ⟨h.u.chg hc (fun k hk e => by have := hlt k e; omega) (fun e => by have := hlt _ e; omega) (fun e => by have := hlt _ e; omega), h.c.trans hc (fun k hk e => by have := hlt k e; omega), ho, h.n.chg hc (fun k hk e => own_own h.n h.r (by decide) k hk e.symm), h.b⟩
theorem LP.set {F : Nat → Prop} {W4 : World} {r vn' : Value} {s : List RC × List CL} {l : List CL} {base : Nat} (h : LP F w W4 W p vn vo vk r x s) (ho : Own encCell 39 2 W base vn' l) (hbase : w.heap.size ≤ base) (n1 : ¬ p = w.heap.size) (hpr : ∀ k, r.ownBlock = some k → ¬ k = p) :
    LP F w W4 (W.setCell ⟨p, 0, none⟩ vn') p vn' vo vk r x (s.1, l) := by
  have hc : Chg (fun k => k = p) W (W.setCell ⟨p, 0, none⟩ vn') := (Chg.refl (fun k => k = p) W).setCell (p := ⟨p, 0, none⟩) rfl vn'
  exact ⟨h.u.set0 n1 vn', h.c.trans hc (fun _ _ h => h), h.r.chg hc hpr, (ho.lower (Nat.zero_le _)).chg hc (fun k hk e => own_ne ho h.u.bp (by decide) k hk e), fun j hj => .inr (Nat.le_trans hbase (ho.lt j hj).1)⟩
end

set_option maxHeartbeats 16000000 in
set_option maxRecDepth 100000 in
theorem mtake_calls (p N M : Nat) (F : Nat → Prop) (m : MS) (x : BR) (w : World) (hm : IsMod w p N M F m) (hM : M + 1 ≤ 1000000) (hN : N + M ≤ 1000000) :
    Calls Try.prog 9 #[.pointer (some ⟨p, 0, none⟩), .agg (encBR x).toArray] w fun e w' => e = .returned (.int .i64 (modNo m x)) ∧ MTQ p N M F m x w (modNo m x) w' ∧ Chg F w w' := by
  obtain ⟨vn, vo, vk, hA⟩ := hm
  have HRT := Sh.mk (fun W => right04_calls x.r W)
  have HK6 := Sh.mk (show rightF x.r = true → 1 ≤ x.r.kind ∧ x.r.kind ≤ 6 by intro h; unfold rightF withinF at h; simp at h; omega)
  have HAH := Sh.mk (fun W => ahead18_calls m.last x W)
  have hpl := hA.blk.lt
  have n1 : ¬ p = w.heap.size := by omega
  have n2 : ¬ w.heap.size = p := by omega
  have HA := Sh.mk hA
  obtain ⟨Ao, co, hvo, _, _, hro⟩ := hA.opn.reads (fun _ => rfl)
  have HVO := Sh.mk hvo
  have HHAS := Sh.mk (fun W (h : Below w.heap.size w W) => hvo ▸ has_calls Ao co m.opn x.r.txn W (hro.below h) (by have := hA.lo; omega))
  clear hA hvo hro
  generalize hno : modNo m x = no
  unfold modNo at hno
  generalize hrt : rightF x.r = rt at HRT hno
  generalize hah : aheadF m.last.r.gsn m.last.stream x = ah at HAH hno
  generalize hin : hasF m.opn x.r.txn = inn at HHAS hno
  have HNO := Sh.mk hno
  rw [hrt] at HK6
  clear hno hrt hah hin
  show Calls _ _ #[_, .agg #[.int .i64 x.stream, .int .i64 x.r.kind, .int .i64 x.r.gsn, .int .i64 x.r.txn, .int .i64 x.r.prev, .int .i64 x.r.page, .string x.r.key, .bool x.r.bef.has, .string x.r.bef.s, .bool x.r.aft.has, .string x.r.aft.s, .int .i64 x.r.undo]] _ _
  go_enter Try.func9, Try.ntmps9
  go_wp2_with fail
  refine wp_gen (fun W => MT w W p vn vo vk m.last x) ⟨HA.out.blk.alloc _, Blk.new' (by simp), bl_alloc (Below.refl _ _) _⟩ ?_
  intro W hT
  have HT := Sh.mk hT
  clear hT
  refine wp_region_noPanic ?_
  refine wpN_begin 99 (fun W => MT w W p vn vo vk m.last x) (by kernel_rfl) ?_
  have hS : (fun W => MT w W p vn vo vk m.last x) W.drew := HT.out.drew
  refine wpN_take (i := 0) (v := ?_) rfl rfl (by kernel_rfl) (by kernel_rfl) (by kernel_rfl) (by kernel_rfl) (fun _ _ _ h => h) (Or.inl ⟨by kernel_rfl, ?hy⟩) hS ?_
  case hy =>
    intro W hW
    skip
    go_simp
    try with_reducible rfl
  (try simp only [Act.put]); (try simp only [List.setIfInBounds_toArray]); (try simp only [List.set_cons_succ]); (try simp only [List.set_cons_zero])
  refine wpN_take (i := 1) (v := ?_) rfl rfl (by kernel_rfl) (by kernel_rfl) (by kernel_rfl) (by kernel_rfl) (fun _ _ _ h => h) (Or.inl ⟨by kernel_rfl, ?hy⟩) hS ?_
  case hy =>
    intro W hW
    skip
    go_simp
    try with_reducible rfl
  (try simp only [Act.put]); (try simp only [List.setIfInBounds_toArray]); (try simp only [List.set_cons_succ]); (try simp only [List.set_cons_zero])
  refine wpN_take (i := 2) (v := ?_) rfl rfl (by kernel_rfl) (by kernel_rfl) (by kernel_rfl) (by kernel_rfl) (fun _ _ _ h => h) (Or.inl ⟨by kernel_rfl, ?hy⟩) hS ?_
  case hy =>
    intro W hW
    skip
    go_simp
    try with_reducible rfl
  (try simp only [Act.put]); (try simp only [List.setIfInBounds_toArray]); (try simp only [List.set_cons_succ]); (try simp only [List.set_cons_zero])
  refine wpN_take (i := 3) (v := ?_) rfl rfl (by kernel_rfl) (by kernel_rfl) (by kernel_rfl) (by kernel_rfl) (fun _ _ _ h => h) (Or.inl ⟨by kernel_rfl, ?hy⟩) hS ?_
  case hy =>
    intro W hW
    have y := hW.c1
    go_simp
    try with_reducible rfl
  (try simp only [Act.put]); (try simp only [List.setIfInBounds_toArray]); (try simp only [List.set_cons_succ]); (try simp only [List.set_cons_zero])
  refine wpN_take (i := 4) (v := ?_) rfl rfl (by kernel_rfl) (by kernel_rfl) (by kernel_rfl) (by kernel_rfl) (fun _ _ _ h => h) (Or.inl ⟨by kernel_rfl, ?hy⟩) hS ?_
  case hy =>
    intro W hW
    skip
    go_simp
    try with_reducible rfl
  (try simp only [Act.put]); (try simp only [List.setIfInBounds_toArray]); (try simp only [List.set_cons_succ]); (try simp only [List.set_cons_zero])
  refine wpN_take (i := 5) (v := ?_) rfl rfl (by kernel_rfl) (by kernel_rfl) (by kernel_rfl) (by kernel_rfl) (fun _ _ _ h => h) (Or.inl ⟨by kernel_rfl, ?hy⟩) hS ?_
  case hy =>
    intro W hW
    skip
    go_simp
    try with_reducible rfl
  (try simp only [Act.put]); (try simp only [List.setIfInBounds_toArray]); (try simp only [List.set_cons_succ]); (try simp only [List.set_cons_zero])
  refine wpN_take (i := 6) (v := ?_) rfl rfl (by kernel_rfl) (by kernel_rfl) (by kernel_rfl) (by kernel_rfl) (fun _ _ _ h => h) (Or.inl ⟨by kernel_rfl, ?hy⟩) hS ?_
  case hy =>
    intro W hW
    have y := hW.x3
    go_simp
    try with_reducible rfl
  (try simp only [Act.put]); (try simp only [List.setIfInBounds_toArray]); (try simp only [List.set_cons_succ]); (try simp only [List.set_cons_zero])
  refine wpN_only (i := 7) rfl (by kernel_rfl) (fun K hK => ?_)
  go_simp
  go_at_call 19
  refine (HHAS.out _ hS.bl).mono ?_
  rintro e w' ⟨rfl, hb2⟩
  refine goto hK (hS.below hb2) ?_
  clear hS hK K
  intro hS
  (try simp only [Act.put]); (try simp only [List.setIfInBounds_toArray]); (try simp only [List.set_cons_succ]); (try simp only [List.set_cons_zero])
  refine wpN_only (i := 8) rfl (by kernel_rfl) (fun K hK => ?_)
  go_simp
  refine goto hK hS ?_
  clear hS hK K
  intro hS
  (try simp only [Act.put]); (try simp only [List.setIfInBounds_toArray]); (try simp only [List.set_cons_succ]); (try simp only [List.set_cons_zero])
  refine wpN_done (by kernel_rfl) ?_ _
  refine NoPanic.normal ?_
  replace HT := Sh.mk hS
  clear hS HHAS
  go_wp2_with fail
  refine wp_region_noPanic ?_
  refine wpN_begin 99 (fun W => MT w W p vn vo vk m.last x) (by kernel_rfl) ?_
  have hS : (fun W => MT w W p vn vo vk m.last x) (World.drew _) := HT.out.drew
  refine wpN_take (i := 0) (v := ?_) rfl rfl (by kernel_rfl) (by kernel_rfl) (by kernel_rfl) (by kernel_rfl) (fun _ _ _ h => h) (Or.inl ⟨by kernel_rfl, ?hy⟩) hS ?_
  case hy =>
    intro W hW
    skip
    go_simp
    try with_reducible rfl
  (try simp only [Act.put]); (try simp only [List.setIfInBounds_toArray]); (try simp only [List.set_cons_succ]); (try simp only [List.set_cons_zero])
  refine wpN_take (i := 1) (v := ?_) rfl rfl (by kernel_rfl) (by kernel_rfl) (by kernel_rfl) (by kernel_rfl) (fun _ _ _ h => h) (Or.inl ⟨by kernel_rfl, ?hy⟩) hS ?_
  case hy =>
    intro W hW
    have y1 := hW.x1; have y2 := hW.x2; have y3 := hW.x3; have y4 := hW.x4; have y5 := hW.x5; have y6 := hW.x6; have y7 := hW.x7; have y8 := hW.x8; have y9 := hW.x9; have y10 := hW.x10; have y11 := hW.x11
    go_simp
    try with_reducible rfl
  (try simp only [Act.put]); (try simp only [List.setIfInBounds_toArray]); (try simp only [List.set_cons_succ]); (try simp only [List.set_cons_zero])
  refine wpN_only (i := 2) rfl (by kernel_rfl) (fun K hK => ?_)
  go_simp
  go_at_call 20
  refine (HRT.out _).mono ?_
  rintro e w' ⟨rfl, hb2⟩
  refine goto hK (hS.below hb2) ?_
  clear hS hK K
  intro hS
  (try simp only [Act.put]); (try simp only [List.setIfInBounds_toArray]); (try simp only [List.set_cons_succ]); (try simp only [List.set_cons_zero])
  refine wpN_only (i := 3) rfl (by kernel_rfl) (fun K hK => ?_)
  go_simp
  refine goto hK hS ?_
  clear hS hK K
  intro hS
  (try simp only [Act.put]); (try simp only [List.setIfInBounds_toArray]); (try simp only [List.set_cons_succ]); (try simp only [List.set_cons_zero])
  refine wpN_only (i := 4) rfl (by kernel_rfl) (fun K hK => ?_)
  go_simp
  refine goto hK hS ?_
  clear hS hK K
  intro hS
  (try simp only [Act.put]); (try simp only [List.setIfInBounds_toArray]); (try simp only [List.set_cons_succ]); (try simp only [List.set_cons_zero])
  cases hrt : rt
  all_goals subst hrt
  · refine wpN_take (i := 5) rfl rfl (by kernel_rfl) (by kernel_rfl) (by kernel_rfl) (by kernel_rfl) (fun _ _ _ h => h) (Or.inr ⟨by kernel_rfl, rfl⟩) hS ?_
    (try simp only [Act.put]); (try simp only [List.setIfInBounds_toArray]); (try simp only [List.set_cons_succ]); (try simp only [List.set_cons_zero])
    refine wpN_take (i := 6) rfl rfl (by kernel_rfl) (by kernel_rfl) (by kernel_rfl) (by kernel_rfl) (fun _ _ _ h => h) (Or.inr ⟨by kernel_rfl, rfl⟩) hS ?_
    (try simp only [Act.put]); (try simp only [List.setIfInBounds_toArray]); (try simp only [List.set_cons_succ]); (try simp only [List.set_cons_zero])
    refine wpN_take (i := 7) rfl rfl (by kernel_rfl) (by kernel_rfl) (by kernel_rfl) (by kernel_rfl) (fun _ _ _ h => h) (Or.inr ⟨by kernel_rfl, rfl⟩) hS ?_
    (try simp only [Act.put]); (try simp only [List.setIfInBounds_toArray]); (try simp only [List.set_cons_succ]); (try simp only [List.set_cons_zero])
    refine wpN_take (i := 8) rfl rfl (by kernel_rfl) (by kernel_rfl) (by kernel_rfl) (by kernel_rfl) (fun _ _ _ h => h) (Or.inr ⟨by kernel_rfl, rfl⟩) hS ?_
    (try simp only [Act.put]); (try simp only [List.setIfInBounds_toArray]); (try simp only [List.set_cons_succ]); (try simp only [List.set_cons_zero])
    refine wpN_take (i := 9) rfl rfl (by kernel_rfl) (by kernel_rfl) (by kernel_rfl) (by kernel_rfl) (fun _ _ _ h => h) (Or.inr ⟨by kernel_rfl, rfl⟩) hS ?_
    (try simp only [Act.put]); (try simp only [List.setIfInBounds_toArray]); (try simp only [List.set_cons_succ]); (try simp only [List.set_cons_zero])
    refine wpN_take (i := 10) rfl rfl (by kernel_rfl) (by kernel_rfl) (by kernel_rfl) (by kernel_rfl) (fun _ _ _ h => h) (Or.inr ⟨by kernel_rfl, rfl⟩) hS ?_
    (try simp only [Act.put]); (try simp only [List.setIfInBounds_toArray]); (try simp only [List.set_cons_succ]); (try simp only [List.set_cons_zero])
    refine wpN_take (i := 11) rfl rfl (by kernel_rfl) (by kernel_rfl) (by kernel_rfl) (by kernel_rfl) (fun _ _ _ h => h) (Or.inr ⟨by kernel_rfl, rfl⟩) hS ?_
    (try simp only [Act.put]); (try simp only [List.setIfInBounds_toArray]); (try simp only [List.set_cons_succ]); (try simp only [List.set_cons_zero])
    refine wpN_only (i := 12) rfl (by kernel_rfl) (fun K hK => ?_)
    go_simp
    refine goto hK hS ?_
    clear hS hK K
    intro hS
    (try simp only [Act.put]); (try simp only [List.setIfInBounds_toArray]); (try simp only [List.set_cons_succ]); (try simp only [List.set_cons_zero])
    refine wpN_only (i := 13) rfl (by kernel_rfl) (fun K hK => ?_)
    go_simp
    refine goto hK hS ?_
    clear hS hK K
    intro hS
    (try simp only [Act.put]); (try simp only [List.setIfInBounds_toArray]); (try simp only [List.set_cons_succ]); (try simp only [List.set_cons_zero])
    refine wpN_done (by kernel_rfl) ?_ _
    refine NoPanic.normal ?_
    replace HT := Sh.mk hS
    clear hS HRT HAH
    go_wp2_with fail
    go_ret
    have hno := HNO.out
    simp [*] at hno
    subst hno
    exact ⟨rfl, MTQ.no HA.out HT.out.bl (by decide), Chg.of_below HT.out.bl⟩
  · refine wpN_take (i := 5) (v := ?_) rfl rfl (by kernel_rfl) (by kernel_rfl) (by kernel_rfl) (by kernel_rfl) (fun _ _ _ h => h) (Or.inl ⟨by kernel_rfl, ?hy⟩) hS ?_
    case hy =>
      intro W hW
      skip
      go_simp
      try with_reducible rfl
    (try simp only [Act.put]); (try simp only [List.setIfInBounds_toArray]); (try simp only [List.set_cons_succ]); (try simp only [List.set_cons_zero])
    refine wpN_take (i := 6) (v := ?_) rfl rfl (by kernel_rfl) (by kernel_rfl) (by kernel_rfl) (by kernel_rfl) (fun _ _ _ h => h) (Or.inl ⟨by kernel_rfl, ?hy⟩) hS ?_
    case hy =>
      intro W hW
      skip
      go_simp
      try with_reducible rfl
    (try simp only [Act.put]); (try simp only [List.setIfInBounds_toArray]); (try simp only [List.set_cons_succ]); (try simp only [List.set_cons_zero])
    refine wpN_take (i := 7) (v := ?_) rfl rfl (by kernel_rfl) (by kernel_rfl) (by kernel_rfl) (by kernel_rfl) (fun _ _ _ h => h) (Or.inl ⟨by kernel_rfl, ?hy⟩) hS ?_
    case hy =>
      intro W hW
      skip
      go_simp
      try with_reducible rfl
    (try simp only [Act.put]); (try simp only [List.setIfInBounds_toArray]); (try simp only [List.set_cons_succ]); (try simp only [List.set_cons_zero])
    refine wpN_take (i := 8) (v := ?_) rfl rfl (by kernel_rfl) (by kernel_rfl) (by kernel_rfl) (by kernel_rfl) (fun _ _ _ h => h) (Or.inl ⟨by kernel_rfl, ?hy⟩) hS ?_
    case hy =>
      intro W hW
      have z0 := hW.l0; have z1 := hW.l1; have z2 := hW.l2; have z3 := hW.l3; have z4 := hW.l4; have z5 := hW.l5; have z6 := hW.l6; have z7 := hW.l7; have z8 := hW.l8; have z9 := hW.l9; have z10 := hW.l10; have z11 := hW.l11
      go_simp
      try with_reducible rfl
    (try simp only [Act.put]); (try simp only [List.setIfInBounds_toArray]); (try simp only [List.set_cons_succ]); (try simp only [List.set_cons_zero])
    refine wpN_take (i := 9) (v := ?_) rfl rfl (by kernel_rfl) (by kernel_rfl) (by kernel_rfl) (by kernel_rfl) (fun _ _ _ h => h) (Or.inl ⟨by kernel_rfl, ?hy⟩) hS ?_
    case hy =>
      intro W hW
      have y0 := hW.x0; have y1 := hW.x1; have y2 := hW.x2; have y3 := hW.x3; have y4 := hW.x4; have y5 := hW.x5; have y6 := hW.x6; have y7 := hW.x7; have y8 := hW.x8; have y9 := hW.x9; have y10 := hW.x10; have y11 := hW.x11
      go_simp
      try with_reducible rfl
    (try simp only [Act.put]); (try simp only [List.setIfInBounds_toArray]); (try simp only [List.set_cons_succ]); (try simp only [List.set_cons_zero])
    refine wpN_only (i := 10) rfl (by kernel_rfl) (fun K hK => ?_)
    go_simp
    go_at_call 21
    refine (HAH.out _).mono ?_
    rintro e w' ⟨rfl, hb2⟩
    refine goto hK (hS.below hb2) ?_
    clear hS hK K
    intro hS
    (try simp only [Act.put]); (try simp only [List.setIfInBounds_toArray]); (try simp only [List.set_cons_succ]); (try simp only [List.set_cons_zero])
    refine wpN_only (i := 11) rfl (by kernel_rfl) (fun K hK => ?_)
    go_simp
    refine goto hK hS ?_
    clear hS hK K
    intro hS
    (try simp only [Act.put]); (try simp only [List.setIfInBounds_toArray]); (try simp only [List.set_cons_succ]); (try simp only [List.set_cons_zero])
    refine wpN_only (i := 12) rfl (by kernel_rfl) (fun K hK => ?_)
    go_simp
    refine goto hK hS ?_
    clear hS hK K
    intro hS
    (try simp only [Act.put]); (try simp only [List.setIfInBounds_toArray]); (try simp only [List.set_cons_succ]); (try simp only [List.set_cons_zero])
    refine wpN_only (i := 13) rfl (by kernel_rfl) (fun K hK => ?_)
    go_simp
    refine goto hK hS ?_
    clear hS hK K
    intro hS
    (try simp only [Act.put]); (try simp only [List.setIfInBounds_toArray]); (try simp only [List.set_cons_succ]); (try simp only [List.set_cons_zero])
    refine wpN_done (by kernel_rfl) ?_ _
    refine NoPanic.normal ?_
    replace HT := Sh.mk hS
    clear hS HRT HAH
    have x1 := HT.out.x1
    cases ah
    · go_wp2_with fail
      go_ret
      have hno := HNO.out
      simp [*] at hno
      subst hno
      exact ⟨rfl, MTQ.no HA.out HT.out.bl (by decide), Chg.of_below HT.out.bl⟩
    · by_cases hk : x.r.kind = 1
      · cases inn
        · have e1 : (x.r.kind == 1) = true := by simp [hk]
          have e2 : (x.r.kind == 2) = false := by simp [hk]
          have e3 : (x.r.kind == 3) = false := by simp [hk]
          have e5 : (x.r.kind == 5) = false := by simp [hk]
          have e0 : (x.r.kind != 1) = false := by simp [hk]
          have e9 : decide (x.r.kind < 5) = true := by simp [hk]
          have hno := HNO.out
          simp [*] at hno
          subst hno
          clear HNO
          have HMT := Sh.mk (show modTake m x = ⟨m.now, withF m.opn x.r.txn true, m.kept, x⟩ by unfold modTake; simp [hk])
          clear hk
          have z0 := HT.out.l0
          have x0 := HT.out.x0
          have f0 := HT.out.bp.frozen 3
          have z1 := HT.out.l1
          have x1 := HT.out.x1
          have f1 := HT.out.bp.frozen 4
          have z2 := HT.out.l2
          have x2 := HT.out.x2
          have f2 := HT.out.bp.frozen 5
          have z3 := HT.out.l3
          have x3 := HT.out.x3
          have f3 := HT.out.bp.frozen 6
          have z4 := HT.out.l4
          have x4 := HT.out.x4
          have f4 := HT.out.bp.frozen 7
          have z5 := HT.out.l5
          have x5 := HT.out.x5
          have f5 := HT.out.bp.frozen 8
          have z6 := HT.out.l6
          have x6 := HT.out.x6
          have f6 := HT.out.bp.frozen 9
          have z7 := HT.out.l7
          have x7 := HT.out.x7
          have f7 := HT.out.bp.frozen 10
          have z8 := HT.out.l8
          have x8 := HT.out.x8
          have f8 := HT.out.bp.frozen 11
          have z9 := HT.out.l9
          have x9 := HT.out.x9
          have f9 := HT.out.bp.frozen 12
          have z10 := HT.out.l10
          have x10 := HT.out.x10
          have f10 := HT.out.bp.frozen 13
          have z11 := HT.out.l11
          have x11 := HT.out.x11
          have f11 := HT.out.bp.frozen 14
          go_wp2_with fail
          refine wp_gen (fun W2 => MU (fun k => k = p) w W2 p vn vo vk x) ⟨(Blk.set (Blk.set (Blk.set (Blk.set (Blk.set (Blk.set (Blk.set (Blk.set (Blk.set (Blk.set (Blk.set (Blk.set HT.out.bp 3 (.int .i64 x.stream)) 4 (.int .i64 x.r.kind)) 5 (.int .i64 x.r.gsn)) 6 (.int .i64 x.r.txn)) 7 (.int .i64 x.r.prev)) 8 (.int .i64 x.r.page)) 9 (.string x.r.key)) 10 (.bool x.r.bef.has)) 11 (.string x.r.bef.s)) 12 (.bool x.r.aft.has)) 13 (.string x.r.aft.s)) 14 (.int .i64 x.r.undo)), (Blk.set_other (p := ⟨p, 14, none⟩) (Blk.set_other (p := ⟨p, 13, none⟩) (Blk.set_other (p := ⟨p, 12, none⟩) (Blk.set_other (p := ⟨p, 11, none⟩) (Blk.set_other (p := ⟨p, 10, none⟩) (Blk.set_other (p := ⟨p, 9, none⟩) (Blk.set_other (p := ⟨p, 8, none⟩) (Blk.set_other (p := ⟨p, 7, none⟩) (Blk.set_other (p := ⟨p, 6, none⟩) (Blk.set_other (p := ⟨p, 5, none⟩) (Blk.set_other (p := ⟨p, 4, none⟩) (Blk.set_other (p := ⟨p, 3, none⟩) HT.out.bx n2 (.int .i64 x.stream)) n2 (.int .i64 x.r.kind)) n2 (.int .i64 x.r.gsn)) n2 (.int .i64 x.r.txn)) n2 (.int .i64 x.r.prev)) n2 (.int .i64 x.r.page)) n2 (.string x.r.key)) n2 (.bool x.r.bef.has)) n2 (.string x.r.bef.s)) n2 (.bool x.r.aft.has)) n2 (.string x.r.aft.s)) n2 (.int .i64 x.r.undo)), (Chg.setCell (Chg.setCell (Chg.setCell (Chg.setCell (Chg.setCell (Chg.setCell (Chg.setCell (Chg.setCell (Chg.setCell (Chg.setCell (Chg.setCell (Chg.setCell (Chg.of_below (F := fun k => k = p) HT.out.bl) (p := ⟨p, 3, none⟩) rfl (.int .i64 x.stream)) (p := ⟨p, 4, none⟩) rfl (.int .i64 x.r.kind)) (p := ⟨p, 5, none⟩) rfl (.int .i64 x.r.gsn)) (p := ⟨p, 6, none⟩) rfl (.int .i64 x.r.txn)) (p := ⟨p, 7, none⟩) rfl (.int .i64 x.r.prev)) (p := ⟨p, 8, none⟩) rfl (.int .i64 x.r.page)) (p := ⟨p, 9, none⟩) rfl (.string x.r.key)) (p := ⟨p, 10, none⟩) rfl (.bool x.r.bef.has)) (p := ⟨p, 11, none⟩) rfl (.string x.r.bef.s)) (p := ⟨p, 12, none⟩) rfl (.bool x.r.aft.has)) (p := ⟨p, 13, none⟩) rfl (.string x.r.aft.s)) (p := ⟨p, 14, none⟩) rfl (.int .i64 x.r.undo)), rfl⟩ ?_
          clear HT
          intro W2 hU
          have HU := Sh.mk hU
          clear hU
          clear z0 x0 f0 z1 x1 f1 z2 x2 f2 z3 x3 f3 z4 x4 f4 z5 x5 f5 z6 x6 f6 z7 x7 f7 z8 x8 f8 z9 x9 f9 z10 x10 f10 z11 x11 f11
          have HWT := Sh.mk (fun W (h : MU (fun k => k = p) w W p vn vo vk x) => with_own x.r.txn true W (HA.out.opn.chg h.ch (own_ne HA.out.opn HA.out.blk (by decide))) (by have := HA.out.lo; omega))
          refine wp_region_noPanic ?_
          refine wpN_begin 11 (fun W => MU (fun k => k = p) w W p vn vo vk x) (by kernel_rfl) ?_
          have hS : (fun W => MU (fun k => k = p) w W p vn vo vk x) (World.drew _) := HU.out.drew
          refine wpN_take (i := 0) (v := ?_) rfl rfl (by kernel_rfl) (by kernel_rfl) (by kernel_rfl) (by kernel_rfl) (fun _ _ _ h => h) (Or.inl ⟨by kernel_rfl, ?hy⟩) hS ?_
          case hy =>
            intro W hW
            skip
            go_simp
            try with_reducible rfl
          (try simp only [Act.put]); (try simp only [List.setIfInBounds_toArray]); (try simp only [List.set_cons_succ]); (try simp only [List.set_cons_zero])
          refine wpN_take (i := 1) (v := ?_) rfl rfl (by kernel_rfl) (by kernel_rfl) (by kernel_rfl) (by kernel_rfl) (fun _ _ _ h => h) (Or.inl ⟨by kernel_rfl, ?hy⟩) hS ?_
          case hy =>
            intro W hW
            skip
            go_simp
            try with_reducible rfl
          (try simp only [Act.put]); (try simp only [List.setIfInBounds_toArray]); (try simp only [List.set_cons_succ]); (try simp only [List.set_cons_zero])
          refine wpN_take (i := 2) (v := ?_) rfl rfl (by kernel_rfl) (by kernel_rfl) (by kernel_rfl) (by kernel_rfl) (fun _ _ _ h => h) (Or.inl ⟨by kernel_rfl, ?hy⟩) hS ?_
          case hy =>
            intro W hW
            skip
            go_simp
            try with_reducible rfl
          (try simp only [Act.put]); (try simp only [List.setIfInBounds_toArray]); (try simp only [List.set_cons_succ]); (try simp only [List.set_cons_zero])
          refine wpN_take (i := 3) (v := ?_) rfl rfl (by kernel_rfl) (by kernel_rfl) (by kernel_rfl) (by kernel_rfl) (fun _ _ _ h => h) (Or.inl ⟨by kernel_rfl, ?hy⟩) hS ?_
          case hy =>
            intro W hW
            skip
            go_simp
            try with_reducible rfl
          (try simp only [Act.put]); (try simp only [List.setIfInBounds_toArray]); (try simp only [List.set_cons_succ]); (try simp only [List.set_cons_zero])
          refine wpN_take (i := 4) (v := ?_) rfl rfl (by kernel_rfl) (by kernel_rfl) (by kernel_rfl) (by kernel_rfl) (fun _ _ _ h => h) (Or.inl ⟨by kernel_rfl, ?hy⟩) hS ?_
          case hy =>
            intro W hW
            have y := hW.c1
            go_simp
            try with_reducible rfl
          (try simp only [Act.put]); (try simp only [List.setIfInBounds_toArray]); (try simp only [List.set_cons_succ]); (try simp only [List.set_cons_zero])
          refine wpN_take (i := 5) (v := ?_) rfl rfl (by kernel_rfl) (by kernel_rfl) (by kernel_rfl) (by kernel_rfl) (fun _ _ _ h => h) (Or.inl ⟨by kernel_rfl, ?hy⟩) hS ?_
          case hy =>
            intro W hW
            skip
            go_simp
            try with_reducible rfl
          (try simp only [Act.put]); (try simp only [List.setIfInBounds_toArray]); (try simp only [List.set_cons_succ]); (try simp only [List.set_cons_zero])
          refine wpN_take (i := 6) (v := ?_) rfl rfl (by kernel_rfl) (by kernel_rfl) (by kernel_rfl) (by kernel_rfl) (fun _ _ _ h => h) (Or.inl ⟨by kernel_rfl, ?hy⟩) hS ?_
          case hy =>
            intro W hW
            skip
            go_simp
            try with_reducible rfl
          (try simp only [Act.put]); (try simp only [List.setIfInBounds_toArray]); (try simp only [List.set_cons_succ]); (try simp only [List.set_cons_zero])
          refine wpN_take (i := 7) (v := ?_) rfl rfl (by kernel_rfl) (by kernel_rfl) (by kernel_rfl) (by kernel_rfl) (fun _ _ _ h => h) (Or.inl ⟨by kernel_rfl, ?hy⟩) hS ?_
          case hy =>
            intro W hW
            have y := hW.x3
            go_simp
            try with_reducible rfl
          (try simp only [Act.put]); (try simp only [List.setIfInBounds_toArray]); (try simp only [List.set_cons_succ]); (try simp only [List.set_cons_zero])
          refine wpN_only (i := 8) rfl (by kernel_rfl) (fun K hK => ?_)
          go_simp
          go_at_call 22
          refine (HWT.out _ hS).mono ?_
          rintro e w' ⟨v1, rfl, ho1, hb2⟩
          have HB2 := Sh.mk hb2
          obtain ⟨A1, d1, hv1, -, -, -⟩ := ho1.reads (fun _ => rfl)
          subst hv1
          have HO1 := Sh.mk ho1
          clear ho1
          refine goto hK (hS.below hb2) ?_
          clear hS hK K
          intro hS
          (try simp only [Act.put]); (try simp only [List.setIfInBounds_toArray]); (try simp only [List.set_cons_succ]); (try simp only [List.set_cons_zero])
          refine wpN_only (i := 9) rfl (by kernel_rfl) (fun K hK => ?_)
          go_simp
          refine goto hK hS ?_
          clear hS hK K
          intro hS
          (try simp only [Act.put]); (try simp only [List.setIfInBounds_toArray]); (try simp only [List.set_cons_succ]); (try simp only [List.set_cons_zero])
          refine wpN_only (i := 10) rfl (by kernel_rfl) (fun K hK => ?_)
          go_simp
          refine goto hK hS ?_
          clear hS hK K
          intro hS
          (try simp only [Act.put]); (try simp only [List.setIfInBounds_toArray]); (try simp only [List.set_cons_succ]); (try simp only [List.set_cons_zero])
          refine wpN_only (i := 11) rfl (by kernel_rfl) (fun K hK => ?_)
          have c1 := hS.c1
          have f1 := hS.bp.frozen 1
          go_simp
          refine hK.out _ _ (.inl rfl) ?_
          clear hK K
          refine wpN_done (by kernel_rfl) ?_ _
          refine NoPanic.normal ?_
          refine then_gen (fun W3 => MU (fun k => k = p) w W3 p vn (.slice A1 (withF m.opn x.r.txn true).length d1) vk x ∧ Own encInt 3 1 W3 0 (.slice A1 (withF m.opn x.r.txn true).length d1) (withF m.opn x.r.txn true) ∧ ∀ k, ((.slice A1 (withF m.opn x.r.txn true).length d1) : Value).ownBlock = some k → F k ∨ w.heap.size ≤ k) ⟨hS.set1 n1 _, (HO1.out.lower (Nat.zero_le _)).chg (Chg.setCell (Chg.refl (fun k => k = p) _) (p := ⟨p, 1, none⟩) rfl _) (fun k hk e => own_ne HO1.out hS.bp (by decide) k hk e), fun k hk => .inr (by have := (HO1.out.lt k hk).1; have := HU.out.ch.size; simp at *; omega)⟩ ?_
          clear hS HO1 HB2 HWT HU
          rintro W3 ⟨hU, ho, hb⟩
          have HU := Sh.mk hU
          have HO1 := Sh.mk ho
          have HBK := Sh.mk hb
          have y1 := hU.x1
          clear hU ho hb
          go_wp2_with fail
          go_ret
          have hlw := put_length (fun y => decide (x.r.txn ≤ y)) (fun y => y != x.r.txn) x.r.txn true m.opn
          exact ⟨rfl, MTQ.yes HA.out HU.out HMT.out (HA.out.now.chg HU.out.ch (own_ne HA.out.now HA.out.blk (by decide))) (fun k hk => .inl (HA.out.fn k hk)) (by have := HA.out.ln; omega) HO1.out HBK.out (by have := HA.out.lo; unfold withF; omega) (HA.out.kept.chg HU.out.ch (own_ne HA.out.kept HA.out.blk (by decide))) (fun k hk => .inl (HA.out.fk k hk)) (by have := HA.out.lk; omega), HU.out.ch.mono (fun k _ h => h ▸ HA.out.fp)⟩
        · have hk1 : (x.r.kind != 1) = false := by simp [hk]
          have hk2 : (x.r.kind == 1) = true := by simp [hk]
          clear hk
          go_wp2_with fail
          go_ret
          have hno := HNO.out
          simp [*] at hno
          subst hno
          exact ⟨rfl, MTQ.no HA.out HT.out.bl (by decide), Chg.of_below HT.out.bl⟩
      · cases inn
        · have hk1 : (x.r.kind != 1) = true := by simp [hk]
          have hk2 : (x.r.kind == 1) = false := by simp [hk]
          clear hk
          go_wp2_with fail
          go_ret
          have hno := HNO.out
          simp [*] at hno
          subst hno
          exact ⟨rfl, MTQ.no HA.out HT.out.bl (by decide), Chg.of_below HT.out.bl⟩
        · have hr := HK6.out
          by_cases hk2 : x.r.kind = 2
          · clear hk hr
            have hk := hk2; clear hk2
            have e1 : (x.r.kind == 1) = false := by simp [hk]
            have e2 : (x.r.kind == 2) = true := by simp [hk]
            have e3 : (x.r.kind == 3) = false := by simp [hk]
            have e5 : (x.r.kind == 5) = false := by simp [hk]
            have e0 : (x.r.kind != 1) = true := by simp [hk]
            have e9 : decide (x.r.kind < 5) = true := by simp [hk]
            have hno := HNO.out
            simp [*] at hno
            subst hno
            clear HNO
            have HMT := Sh.mk (show modTake m x = ⟨m.now, m.opn, m.kept ++ [x.r], x⟩ by unfold modTake; simp [hk])
            clear hk
            have z0 := HT.out.l0
            have x0 := HT.out.x0
            have f0 := HT.out.bp.frozen 3
            have z1 := HT.out.l1
            have x1 := HT.out.x1
            have f1 := HT.out.bp.frozen 4
            have z2 := HT.out.l2
            have x2 := HT.out.x2
            have f2 := HT.out.bp.frozen 5
            have z3 := HT.out.l3
            have x3 := HT.out.x3
            have f3 := HT.out.bp.frozen 6
            have z4 := HT.out.l4
            have x4 := HT.out.x4
            have f4 := HT.out.bp.frozen 7
            have z5 := HT.out.l5
            have x5 := HT.out.x5
            have f5 := HT.out.bp.frozen 8
            have z6 := HT.out.l6
            have x6 := HT.out.x6
            have f6 := HT.out.bp.frozen 9
            have z7 := HT.out.l7
            have x7 := HT.out.x7
            have f7 := HT.out.bp.frozen 10
            have z8 := HT.out.l8
            have x8 := HT.out.x8
            have f8 := HT.out.bp.frozen 11
            have z9 := HT.out.l9
            have x9 := HT.out.x9
            have f9 := HT.out.bp.frozen 12
            have z10 := HT.out.l10
            have x10 := HT.out.x10
            have f10 := HT.out.bp.frozen 13
            have z11 := HT.out.l11
            have x11 := HT.out.x11
            have f11 := HT.out.bp.frozen 14
            go_wp2_with fail
            refine wp_gen (fun W2 => MU (fun k => k = p) w W2 p vn vo vk x) ⟨(Blk.set (Blk.set (Blk.set (Blk.set (Blk.set (Blk.set (Blk.set (Blk.set (Blk.set (Blk.set (Blk.set (Blk.set HT.out.bp 3 (.int .i64 x.stream)) 4 (.int .i64 x.r.kind)) 5 (.int .i64 x.r.gsn)) 6 (.int .i64 x.r.txn)) 7 (.int .i64 x.r.prev)) 8 (.int .i64 x.r.page)) 9 (.string x.r.key)) 10 (.bool x.r.bef.has)) 11 (.string x.r.bef.s)) 12 (.bool x.r.aft.has)) 13 (.string x.r.aft.s)) 14 (.int .i64 x.r.undo)), (Blk.set_other (p := ⟨p, 14, none⟩) (Blk.set_other (p := ⟨p, 13, none⟩) (Blk.set_other (p := ⟨p, 12, none⟩) (Blk.set_other (p := ⟨p, 11, none⟩) (Blk.set_other (p := ⟨p, 10, none⟩) (Blk.set_other (p := ⟨p, 9, none⟩) (Blk.set_other (p := ⟨p, 8, none⟩) (Blk.set_other (p := ⟨p, 7, none⟩) (Blk.set_other (p := ⟨p, 6, none⟩) (Blk.set_other (p := ⟨p, 5, none⟩) (Blk.set_other (p := ⟨p, 4, none⟩) (Blk.set_other (p := ⟨p, 3, none⟩) HT.out.bx n2 (.int .i64 x.stream)) n2 (.int .i64 x.r.kind)) n2 (.int .i64 x.r.gsn)) n2 (.int .i64 x.r.txn)) n2 (.int .i64 x.r.prev)) n2 (.int .i64 x.r.page)) n2 (.string x.r.key)) n2 (.bool x.r.bef.has)) n2 (.string x.r.bef.s)) n2 (.bool x.r.aft.has)) n2 (.string x.r.aft.s)) n2 (.int .i64 x.r.undo)), (Chg.setCell (Chg.setCell (Chg.setCell (Chg.setCell (Chg.setCell (Chg.setCell (Chg.setCell (Chg.setCell (Chg.setCell (Chg.setCell (Chg.setCell (Chg.setCell (Chg.of_below (F := fun k => k = p) HT.out.bl) (p := ⟨p, 3, none⟩) rfl (.int .i64 x.stream)) (p := ⟨p, 4, none⟩) rfl (.int .i64 x.r.kind)) (p := ⟨p, 5, none⟩) rfl (.int .i64 x.r.gsn)) (p := ⟨p, 6, none⟩) rfl (.int .i64 x.r.txn)) (p := ⟨p, 7, none⟩) rfl (.int .i64 x.r.prev)) (p := ⟨p, 8, none⟩) rfl (.int .i64 x.r.page)) (p := ⟨p, 9, none⟩) rfl (.string x.r.key)) (p := ⟨p, 10, none⟩) rfl (.bool x.r.bef.has)) (p := ⟨p, 11, none⟩) rfl (.string x.r.bef.s)) (p := ⟨p, 12, none⟩) rfl (.bool x.r.aft.has)) (p := ⟨p, 13, none⟩) rfl (.string x.r.aft.s)) (p := ⟨p, 14, none⟩) rfl (.int .i64 x.r.undo)), rfl⟩ ?_
            clear HT
            intro W2 hU
            have HU := Sh.mk hU
            clear hU
            clear z0 x0 f0 z1 x1 f1 z2 x2 f2 z3 x3 f3 z4 x4 f4 z5 x5 f5 z6 x6 f6 z7 x7 f7 z8 x8 f8 z9 x9 f9 z10 x10 f10 z11 x11 f11
            have hkw := (HA.out.kept.chg HU.out.ch (own_ne HA.out.kept HA.out.blk (by decide)))
            have HKR := Sh.mk hkw
            clear hkw
            replace HU := Sh.mk (HU.out.mono (G' := (fun k => k = p ∨ some k = vk.ownBlock)) (fun k h => .inl h))
            refine wp_region_noPanic ?_
            refine wpN_begin 11 (fun W => MU (fun k => k = p ∨ some k = vk.ownBlock) w W p vn vo vk x) (by kernel_rfl) ?_
            have hS : (fun W => MU (fun k => k = p ∨ some k = vk.ownBlock) w W p vn vo vk x) (World.drew _) := HU.out.drew
            refine wpN_take (i := 0) (v := ?_) rfl rfl (by kernel_rfl) (by kernel_rfl) (by kernel_rfl) (by kernel_rfl) (fun _ _ _ h => h) (Or.inl ⟨by kernel_rfl, ?hy⟩) hS ?_
            case hy =>
              intro W hW
              skip
              go_simp
              try with_reducible rfl
            (try simp only [Act.put]); (try simp only [List.setIfInBounds_toArray]); (try simp only [List.set_cons_succ]); (try simp only [List.set_cons_zero])
            refine wpN_take (i := 1) (v := ?_) rfl rfl (by kernel_rfl) (by kernel_rfl) (by kernel_rfl) (by kernel_rfl) (fun _ _ _ h => h) (Or.inl ⟨by kernel_rfl, ?hy⟩) hS ?_
            case hy =>
              intro W hW
              skip
              go_simp
              try with_reducible rfl
            (try simp only [Act.put]); (try simp only [List.setIfInBounds_toArray]); (try simp only [List.set_cons_succ]); (try simp only [List.set_cons_zero])
            refine wpN_take (i := 2) (v := ?_) rfl rfl (by kernel_rfl) (by kernel_rfl) (by kernel_rfl) (by kernel_rfl) (fun _ _ _ h => h) (Or.inl ⟨by kernel_rfl, ?hy⟩) hS ?_
            case hy =>
              intro W hW
              skip
              go_simp
              try with_reducible rfl
            (try simp only [Act.put]); (try simp only [List.setIfInBounds_toArray]); (try simp only [List.set_cons_succ]); (try simp only [List.set_cons_zero])
            refine wpN_take (i := 3) (v := ?_) rfl rfl (by kernel_rfl) (by kernel_rfl) (by kernel_rfl) (by kernel_rfl) (fun _ _ _ h => h) (Or.inl ⟨by kernel_rfl, ?hy⟩) hS ?_
            case hy =>
              intro W hW
              skip
              go_simp
              try with_reducible rfl
            (try simp only [Act.put]); (try simp only [List.setIfInBounds_toArray]); (try simp only [List.set_cons_succ]); (try simp only [List.set_cons_zero])
            refine wpN_take (i := 4) (v := ?_) rfl rfl (by kernel_rfl) (by kernel_rfl) (by kernel_rfl) (by kernel_rfl) (fun _ _ _ h => h) (Or.inl ⟨by kernel_rfl, ?hy⟩) hS ?_
            case hy =>
              intro W hW
              have y := hW.c2
              go_simp
              try with_reducible rfl
            (try simp only [Act.put]); (try simp only [List.setIfInBounds_toArray]); (try simp only [List.set_cons_succ]); (try simp only [List.set_cons_zero])
            refine wpN_take (i := 5) (v := ?_) rfl rfl (by kernel_rfl) (by kernel_rfl) (by kernel_rfl) (by kernel_rfl) (fun _ _ _ h => h) (Or.inl ⟨by kernel_rfl, ?hy⟩) hS ?_
            case hy =>
              intro W hW
              skip
              go_simp
              try with_reducible rfl
            (try simp only [Act.put]); (try simp only [List.setIfInBounds_toArray]); (try simp only [List.set_cons_succ]); (try simp only [List.set_cons_zero])
            refine wpN_take (i := 6) (v := ?_) rfl rfl (by kernel_rfl) (by kernel_rfl) (by kernel_rfl) (by kernel_rfl) (fun _ _ _ h => h) (Or.inl ⟨by kernel_rfl, ?hy⟩) hS ?_
            case hy =>
              intro W hW
              have y1 := hW.x1; have y2 := hW.x2; have y3 := hW.x3; have y4 := hW.x4; have y5 := hW.x5; have y6 := hW.x6; have y7 := hW.x7; have y8 := hW.x8; have y9 := hW.x9; have y10 := hW.x10; have y11 := hW.x11
              go_simp
              try with_reducible rfl
            (try simp only [Act.put]); (try simp only [List.setIfInBounds_toArray]); (try simp only [List.set_cons_succ]); (try simp only [List.set_cons_zero])
            refine wpN_only (i := 7) rfl (by kernel_rfl) (fun K hK => ?_)
            go_simp
            refine goto hK ((HU.out.alloc _).drew) ?_
            clear hS hK K
            intro hS
            (try simp only [Act.put]); (try simp only [List.setIfInBounds_toArray]); (try simp only [List.set_cons_succ]); (try simp only [List.set_cons_zero])
            refine wpN_gen (fun W5 => MU (fun k => k = p ∨ some k = vk.ownBlock) w W5 p vn vo vk x ∧ Blk W5 W2.heap.size 31 (encRec x.r) ∧ Own encRec 31 11 W5 0 vk m.kept ∧ W2.heap.size < W5.heap.size) ⟨hS, by exact Blk.new W2 _ _, HKR.out.alloc _, by simp⟩ ?_
            clear hS
            rintro W5 ⟨hS, hbk, hok, hsz⟩
            refine wpN_only (i := 8) rfl (by kernel_rfl) (fun K hK => ?_)
            refine step_push E_rec rfl _ _ rfl 0 vk m.kept x.r W2.heap.size rfl rfl hok hbk (by have := HA.out.lk; omega) (by have := HA.out.lk; unfold maxLen; omega) (Nat.zero_le _) ?_
            intro vk' W6 ho6 hc6 hs6
            obtain ⟨g, cap, hvk6, hg, -⟩ := hs6
            subst hvk6
            have HO6 := Sh.mk ho6
            have HS6 := Sh.mk (show ∀ k, ((.slice (some ⟨g, 0, none⟩) (m.kept.length + 1) cap) : Value).ownBlock = some k → F k ∨ w.heap.size ≤ k by
              intro k hk
              obtain rfl : g = k := by simpa [Value.ownBlock] using hk
              rcases hg with hg | hg
              · exact .inl (HA.out.fk _ hg)
              · exact .inr (by have := HU.out.ch.size; omega))
            refine goto hK (hS.chg hc6 (fun k _ e => .inr e) (fun e => own_ne HA.out.kept HA.out.blk (by decide) p e.symm rfl) (fun e => by have := (HA.out.kept.lt _ e.symm).2; omega)) ?_
            clear hS hK K hok hbk hg ho6
            intro hS
            (try simp only [Act.put]); (try simp only [List.setIfInBounds_toArray]); (try simp only [List.set_cons_succ]); (try simp only [List.set_cons_zero])
            refine wpN_only (i := 9) rfl (by kernel_rfl) (fun K hK => ?_)
            go_simp
            refine goto hK hS ?_
            clear hS hK K
            intro hS
            (try simp only [Act.put]); (try simp only [List.setIfInBounds_toArray]); (try simp only [List.set_cons_succ]); (try simp only [List.set_cons_zero])
            refine wpN_only (i := 10) rfl (by kernel_rfl) (fun K hK => ?_)
            go_simp
            refine goto hK hS ?_
            clear hS hK K
            intro hS
            (try simp only [Act.put]); (try simp only [List.setIfInBounds_toArray]); (try simp only [List.set_cons_succ]); (try simp only [List.set_cons_zero])
            refine wpN_only (i := 11) rfl (by kernel_rfl) (fun K hK => ?_)
            have c2 := hS.c2
            have f2 := hS.bp.frozen 2
            go_simp
            refine hK.out _ _ (.inl rfl) ?_
            clear hK K
            refine wpN_done (by kernel_rfl) ?_ _
            refine NoPanic.normal ?_
            refine then_gen (fun W3 => MU (fun k => k = p ∨ some k = vk.ownBlock) w W3 p vn vo (.slice (some ⟨g, 0, none⟩) (m.kept.length + 1) cap) x ∧ Own encRec 31 11 W3 0 (.slice (some ⟨g, 0, none⟩) (m.kept.length + 1) cap) (m.kept ++ [x.r])) ⟨hS.set2 n1 _, HO6.out.chg (Chg.setCell (Chg.refl (fun k => k = p) _) (p := ⟨p, 2, none⟩) rfl _) (fun k hk e => own_ne HO6.out hS.bp (by decide) k hk e)⟩ ?_
            clear hS HO6
            rintro W3 ⟨hU, ho⟩
            replace HU := Sh.mk hU
            have HO1 := Sh.mk ho
            have y1 := hU.x1
            clear hU ho
            go_wp2_with fail
            go_ret
            have hn := HA.out.now.chg HU.out.ch (fun k hk e => by rcases e with e | e; exact own_ne HA.out.now HA.out.blk (by decide) k hk e; exact own_own HA.out.now HA.out.kept (by decide) k hk e.symm)
            have ho := HA.out.opn.chg HU.out.ch (fun k hk e => by rcases e with e | e; exact own_ne HA.out.opn HA.out.blk (by decide) k hk e; exact own_own HA.out.opn HA.out.kept (by decide) k hk e.symm)
            exact ⟨rfl, MTQ.yes HA.out HU.out HMT.out hn (fun k hk => .inl (HA.out.fn k hk)) (by have := HA.out.ln; omega) ho (fun k hk => .inl (HA.out.fo k hk)) (by have := HA.out.lo; omega) HO1.out HS6.out (by have := HA.out.lk; simp; omega), HU.out.ch.mono (fun k _ h => by rcases h with h | h; exact h ▸ HA.out.fp; exact HA.out.fk k h.symm)⟩
          · by_cases hk3 : x.r.kind = 3
            · clear hk hr hk2
              have hk := hk3; clear hk3
              have e1 : (x.r.kind == 1) = false := by simp [hk]
              have e2 : (x.r.kind == 2) = false := by simp [hk]
              have e3 : (x.r.kind == 3) = true := by simp [hk]
              have e5 : (x.r.kind == 5) = false := by simp [hk]
              have e0 : (x.r.kind != 1) = true := by simp [hk]
              have e9 : decide (x.r.kind < 5) = true := by simp [hk]
              have hno := HNO.out
              simp [*] at hno
              subst hno
              clear HNO
              have HMT := Sh.mk (show modTake m x = ⟨m.now, m.opn, m.kept ++ [x.r], x⟩ by unfold modTake; simp [hk])
              clear hk
              have z0 := HT.out.l0
              have x0 := HT.out.x0
              have f0 := HT.out.bp.frozen 3
              have z1 := HT.out.l1
              have x1 := HT.out.x1
              have f1 := HT.out.bp.frozen 4
              have z2 := HT.out.l2
              have x2 := HT.out.x2
              have f2 := HT.out.bp.frozen 5
              have z3 := HT.out.l3
              have x3 := HT.out.x3
              have f3 := HT.out.bp.frozen 6
              have z4 := HT.out.l4
              have x4 := HT.out.x4
              have f4 := HT.out.bp.frozen 7
              have z5 := HT.out.l5
              have x5 := HT.out.x5
              have f5 := HT.out.bp.frozen 8
              have z6 := HT.out.l6
              have x6 := HT.out.x6
              have f6 := HT.out.bp.frozen 9
              have z7 := HT.out.l7
              have x7 := HT.out.x7
              have f7 := HT.out.bp.frozen 10
              have z8 := HT.out.l8
              have x8 := HT.out.x8
              have f8 := HT.out.bp.frozen 11
              have z9 := HT.out.l9
              have x9 := HT.out.x9
              have f9 := HT.out.bp.frozen 12
              have z10 := HT.out.l10
              have x10 := HT.out.x10
              have f10 := HT.out.bp.frozen 13
              have z11 := HT.out.l11
              have x11 := HT.out.x11
              have f11 := HT.out.bp.frozen 14
              go_wp2_with fail
              refine wp_gen (fun W2 => MU (fun k => k = p) w W2 p vn vo vk x) ⟨(Blk.set (Blk.set (Blk.set (Blk.set (Blk.set (Blk.set (Blk.set (Blk.set (Blk.set (Blk.set (Blk.set (Blk.set HT.out.bp 3 (.int .i64 x.stream)) 4 (.int .i64 x.r.kind)) 5 (.int .i64 x.r.gsn)) 6 (.int .i64 x.r.txn)) 7 (.int .i64 x.r.prev)) 8 (.int .i64 x.r.page)) 9 (.string x.r.key)) 10 (.bool x.r.bef.has)) 11 (.string x.r.bef.s)) 12 (.bool x.r.aft.has)) 13 (.string x.r.aft.s)) 14 (.int .i64 x.r.undo)), (Blk.set_other (p := ⟨p, 14, none⟩) (Blk.set_other (p := ⟨p, 13, none⟩) (Blk.set_other (p := ⟨p, 12, none⟩) (Blk.set_other (p := ⟨p, 11, none⟩) (Blk.set_other (p := ⟨p, 10, none⟩) (Blk.set_other (p := ⟨p, 9, none⟩) (Blk.set_other (p := ⟨p, 8, none⟩) (Blk.set_other (p := ⟨p, 7, none⟩) (Blk.set_other (p := ⟨p, 6, none⟩) (Blk.set_other (p := ⟨p, 5, none⟩) (Blk.set_other (p := ⟨p, 4, none⟩) (Blk.set_other (p := ⟨p, 3, none⟩) HT.out.bx n2 (.int .i64 x.stream)) n2 (.int .i64 x.r.kind)) n2 (.int .i64 x.r.gsn)) n2 (.int .i64 x.r.txn)) n2 (.int .i64 x.r.prev)) n2 (.int .i64 x.r.page)) n2 (.string x.r.key)) n2 (.bool x.r.bef.has)) n2 (.string x.r.bef.s)) n2 (.bool x.r.aft.has)) n2 (.string x.r.aft.s)) n2 (.int .i64 x.r.undo)), (Chg.setCell (Chg.setCell (Chg.setCell (Chg.setCell (Chg.setCell (Chg.setCell (Chg.setCell (Chg.setCell (Chg.setCell (Chg.setCell (Chg.setCell (Chg.setCell (Chg.of_below (F := fun k => k = p) HT.out.bl) (p := ⟨p, 3, none⟩) rfl (.int .i64 x.stream)) (p := ⟨p, 4, none⟩) rfl (.int .i64 x.r.kind)) (p := ⟨p, 5, none⟩) rfl (.int .i64 x.r.gsn)) (p := ⟨p, 6, none⟩) rfl (.int .i64 x.r.txn)) (p := ⟨p, 7, none⟩) rfl (.int .i64 x.r.prev)) (p := ⟨p, 8, none⟩) rfl (.int .i64 x.r.page)) (p := ⟨p, 9, none⟩) rfl (.string x.r.key)) (p := ⟨p, 10, none⟩) rfl (.bool x.r.bef.has)) (p := ⟨p, 11, none⟩) rfl (.string x.r.bef.s)) (p := ⟨p, 12, none⟩) rfl (.bool x.r.aft.has)) (p := ⟨p, 13, none⟩) rfl (.string x.r.aft.s)) (p := ⟨p, 14, none⟩) rfl (.int .i64 x.r.undo)), rfl⟩ ?_
              clear HT
              intro W2 hU
              have HU := Sh.mk hU
              clear hU
              clear z0 x0 f0 z1 x1 f1 z2 x2 f2 z3 x3 f3 z4 x4 f4 z5 x5 f5 z6 x6 f6 z7 x7 f7 z8 x8 f8 z9 x9 f9 z10 x10 f10 z11 x11 f11
              have hkw := (HA.out.kept.chg HU.out.ch (own_ne HA.out.kept HA.out.blk (by decide)))
              have HKR := Sh.mk hkw
              clear hkw
              replace HU := Sh.mk (HU.out.mono (G' := (fun k => k = p ∨ some k = vk.ownBlock)) (fun k h => .inl h))
              refine wp_region_noPanic ?_
              refine wpN_begin 11 (fun W => MU (fun k => k = p ∨ some k = vk.ownBlock) w W p vn vo vk x) (by kernel_rfl) ?_
              have hS : (fun W => MU (fun k => k = p ∨ some k = vk.ownBlock) w W p vn vo vk x) (World.drew _) := HU.out.drew
              refine wpN_take (i := 0) (v := ?_) rfl rfl (by kernel_rfl) (by kernel_rfl) (by kernel_rfl) (by kernel_rfl) (fun _ _ _ h => h) (Or.inl ⟨by kernel_rfl, ?hy⟩) hS ?_
              case hy =>
                intro W hW
                skip
                go_simp
                try with_reducible rfl
              (try simp only [Act.put]); (try simp only [List.setIfInBounds_toArray]); (try simp only [List.set_cons_succ]); (try simp only [List.set_cons_zero])
              refine wpN_take (i := 1) (v := ?_) rfl rfl (by kernel_rfl) (by kernel_rfl) (by kernel_rfl) (by kernel_rfl) (fun _ _ _ h => h) (Or.inl ⟨by kernel_rfl, ?hy⟩) hS ?_
              case hy =>
                intro W hW
                skip
                go_simp
                try with_reducible rfl
              (try simp only [Act.put]); (try simp only [List.setIfInBounds_toArray]); (try simp only [List.set_cons_succ]); (try simp only [List.set_cons_zero])
              refine wpN_take (i := 2) (v := ?_) rfl rfl (by kernel_rfl) (by kernel_rfl) (by kernel_rfl) (by kernel_rfl) (fun _ _ _ h => h) (Or.inl ⟨by kernel_rfl, ?hy⟩) hS ?_
              case hy =>
                intro W hW
                skip
                go_simp
                try with_reducible rfl
              (try simp only [Act.put]); (try simp only [List.setIfInBounds_toArray]); (try simp only [List.set_cons_succ]); (try simp only [List.set_cons_zero])
              refine wpN_take (i := 3) (v := ?_) rfl rfl (by kernel_rfl) (by kernel_rfl) (by kernel_rfl) (by kernel_rfl) (fun _ _ _ h => h) (Or.inl ⟨by kernel_rfl, ?hy⟩) hS ?_
              case hy =>
                intro W hW
                skip
                go_simp
                try with_reducible rfl
              (try simp only [Act.put]); (try simp only [List.setIfInBounds_toArray]); (try simp only [List.set_cons_succ]); (try simp only [List.set_cons_zero])
              refine wpN_take (i := 4) (v := ?_) rfl rfl (by kernel_rfl) (by kernel_rfl) (by kernel_rfl) (by kernel_rfl) (fun _ _ _ h => h) (Or.inl ⟨by kernel_rfl, ?hy⟩) hS ?_
              case hy =>
                intro W hW
                have y := hW.c2
                go_simp
                try with_reducible rfl
              (try simp only [Act.put]); (try simp only [List.setIfInBounds_toArray]); (try simp only [List.set_cons_succ]); (try simp only [List.set_cons_zero])
              refine wpN_take (i := 5) (v := ?_) rfl rfl (by kernel_rfl) (by kernel_rfl) (by kernel_rfl) (by kernel_rfl) (fun _ _ _ h => h) (Or.inl ⟨by kernel_rfl, ?hy⟩) hS ?_
              case hy =>
                intro W hW
                skip
                go_simp
                try with_reducible rfl
              (try simp only [Act.put]); (try simp only [List.setIfInBounds_toArray]); (try simp only [List.set_cons_succ]); (try simp only [List.set_cons_zero])
              refine wpN_take (i := 6) (v := ?_) rfl rfl (by kernel_rfl) (by kernel_rfl) (by kernel_rfl) (by kernel_rfl) (fun _ _ _ h => h) (Or.inl ⟨by kernel_rfl, ?hy⟩) hS ?_
              case hy =>
                intro W hW
                have y1 := hW.x1; have y2 := hW.x2; have y3 := hW.x3; have y4 := hW.x4; have y5 := hW.x5; have y6 := hW.x6; have y7 := hW.x7; have y8 := hW.x8; have y9 := hW.x9; have y10 := hW.x10; have y11 := hW.x11
                go_simp
                try with_reducible rfl
              (try simp only [Act.put]); (try simp only [List.setIfInBounds_toArray]); (try simp only [List.set_cons_succ]); (try simp only [List.set_cons_zero])
              refine wpN_only (i := 7) rfl (by kernel_rfl) (fun K hK => ?_)
              go_simp
              refine goto hK ((HU.out.alloc _).drew) ?_
              clear hS hK K
              intro hS
              (try simp only [Act.put]); (try simp only [List.setIfInBounds_toArray]); (try simp only [List.set_cons_succ]); (try simp only [List.set_cons_zero])
              refine wpN_gen (fun W5 => MU (fun k => k = p ∨ some k = vk.ownBlock) w W5 p vn vo vk x ∧ Blk W5 W2.heap.size 31 (encRec x.r) ∧ Own encRec 31 11 W5 0 vk m.kept ∧ W2.heap.size < W5.heap.size) ⟨hS, by exact Blk.new W2 _ _, HKR.out.alloc _, by simp⟩ ?_
              clear hS
              rintro W5 ⟨hS, hbk, hok, hsz⟩
              refine wpN_only (i := 8) rfl (by kernel_rfl) (fun K hK => ?_)
              refine step_push E_rec rfl _ _ rfl 0 vk m.kept x.r W2.heap.size rfl rfl hok hbk (by have := HA.out.lk; omega) (by have := HA.out.lk; unfold maxLen; omega) (Nat.zero_le _) ?_
              intro vk' W6 ho6 hc6 hs6
              obtain ⟨g, cap, hvk6, hg, -⟩ := hs6
              subst hvk6
              have HO6 := Sh.mk ho6
              have HS6 := Sh.mk (show ∀ k, ((.slice (some ⟨g, 0, none⟩) (m.kept.length + 1) cap) : Value).ownBlock = some k → F k ∨ w.heap.size ≤ k by
                intro k hk
                obtain rfl : g = k := by simpa [Value.ownBlock] using hk
                rcases hg with hg | hg
                · exact .inl (HA.out.fk _ hg)
                · exact .inr (by have := HU.out.ch.size; omega))
              refine goto hK (hS.chg hc6 (fun k _ e => .inr e) (fun e => own_ne HA.out.kept HA.out.blk (by decide) p e.symm rfl) (fun e => by have := (HA.out.kept.lt _ e.symm).2; omega)) ?_
              clear hS hK K hok hbk hg ho6
              intro hS
              (try simp only [Act.put]); (try simp only [List.setIfInBounds_toArray]); (try simp only [List.set_cons_succ]); (try simp only [List.set_cons_zero])
              refine wpN_only (i := 9) rfl (by kernel_rfl) (fun K hK => ?_)
              go_simp
              refine goto hK hS ?_
              clear hS hK K
              intro hS
              (try simp only [Act.put]); (try simp only [List.setIfInBounds_toArray]); (try simp only [List.set_cons_succ]); (try simp only [List.set_cons_zero])
              refine wpN_only (i := 10) rfl (by kernel_rfl) (fun K hK => ?_)
              go_simp
              refine goto hK hS ?_
              clear hS hK K
              intro hS
              (try simp only [Act.put]); (try simp only [List.setIfInBounds_toArray]); (try simp only [List.set_cons_succ]); (try simp only [List.set_cons_zero])
              refine wpN_only (i := 11) rfl (by kernel_rfl) (fun K hK => ?_)
              have c2 := hS.c2
              have f2 := hS.bp.frozen 2
              go_simp
              refine hK.out _ _ (.inl rfl) ?_
              clear hK K
              refine wpN_done (by kernel_rfl) ?_ _
              refine NoPanic.normal ?_
              refine then_gen (fun W3 => MU (fun k => k = p ∨ some k = vk.ownBlock) w W3 p vn vo (.slice (some ⟨g, 0, none⟩) (m.kept.length + 1) cap) x ∧ Own encRec 31 11 W3 0 (.slice (some ⟨g, 0, none⟩) (m.kept.length + 1) cap) (m.kept ++ [x.r])) ⟨hS.set2 n1 _, HO6.out.chg (Chg.setCell (Chg.refl (fun k => k = p) _) (p := ⟨p, 2, none⟩) rfl _) (fun k hk e => own_ne HO6.out hS.bp (by decide) k hk e)⟩ ?_
              clear hS HO6
              rintro W3 ⟨hU, ho⟩
              replace HU := Sh.mk hU
              have HO1 := Sh.mk ho
              have y1 := hU.x1
              clear hU ho
              go_wp2_with fail
              go_ret
              have hn := HA.out.now.chg HU.out.ch (fun k hk e => by rcases e with e | e; exact own_ne HA.out.now HA.out.blk (by decide) k hk e; exact own_own HA.out.now HA.out.kept (by decide) k hk e.symm)
              have ho := HA.out.opn.chg HU.out.ch (fun k hk e => by rcases e with e | e; exact own_ne HA.out.opn HA.out.blk (by decide) k hk e; exact own_own HA.out.opn HA.out.kept (by decide) k hk e.symm)
              exact ⟨rfl, MTQ.yes HA.out HU.out HMT.out hn (fun k hk => .inl (HA.out.fn k hk)) (by have := HA.out.ln; omega) ho (fun k hk => .inl (HA.out.fo k hk)) (by have := HA.out.lo; omega) HO1.out HS6.out (by have := HA.out.lk; simp; omega), HU.out.ch.mono (fun k _ h => by rcases h with h | h; exact h ▸ HA.out.fp; exact HA.out.fk k h.symm)⟩
            · by_cases hk4 : x.r.kind = 4
              · clear hk hr hk2 hk3
                have hk := hk4; clear hk4
                have e1 : (x.r.kind == 1) = false := by simp [hk]
                have e2 : (x.r.kind == 2) = false := by simp [hk]
                have e3 : (x.r.kind == 3) = false := by simp [hk]
                have e5 : (x.r.kind == 5) = false := by simp [hk]
                have e0 : (x.r.kind != 1) = true := by simp [hk]
                have e9 : decide (x.r.kind < 5) = true := by simp [hk]
                have hno := HNO.out
                simp [*] at hno
                subst hno
                clear HNO
                have HMT := Sh.mk (show modTake m x = ⟨m.now, m.opn, m.kept, x⟩ by unfold modTake; simp [hk])
                clear hk
                have z0 := HT.out.l0
                have x0 := HT.out.x0
                have f0 := HT.out.bp.frozen 3
                have z1 := HT.out.l1
                have x1 := HT.out.x1
                have f1 := HT.out.bp.frozen 4
                have z2 := HT.out.l2
                have x2 := HT.out.x2
                have f2 := HT.out.bp.frozen 5
                have z3 := HT.out.l3
                have x3 := HT.out.x3
                have f3 := HT.out.bp.frozen 6
                have z4 := HT.out.l4
                have x4 := HT.out.x4
                have f4 := HT.out.bp.frozen 7
                have z5 := HT.out.l5
                have x5 := HT.out.x5
                have f5 := HT.out.bp.frozen 8
                have z6 := HT.out.l6
                have x6 := HT.out.x6
                have f6 := HT.out.bp.frozen 9
                have z7 := HT.out.l7
                have x7 := HT.out.x7
                have f7 := HT.out.bp.frozen 10
                have z8 := HT.out.l8
                have x8 := HT.out.x8
                have f8 := HT.out.bp.frozen 11
                have z9 := HT.out.l9
                have x9 := HT.out.x9
                have f9 := HT.out.bp.frozen 12
                have z10 := HT.out.l10
                have x10 := HT.out.x10
                have f10 := HT.out.bp.frozen 13
                have z11 := HT.out.l11
                have x11 := HT.out.x11
                have f11 := HT.out.bp.frozen 14
                go_wp2_with fail
                go_ret
                have hU : MU (fun k => k = p) w _ p vn vo vk x := ⟨(Blk.set (Blk.set (Blk.set (Blk.set (Blk.set (Blk.set (Blk.set (Blk.set (Blk.set (Blk.set (Blk.set (Blk.set HT.out.bp 3 (.int .i64 x.stream)) 4 (.int .i64 x.r.kind)) 5 (.int .i64 x.r.gsn)) 6 (.int .i64 x.r.txn)) 7 (.int .i64 x.r.prev)) 8 (.int .i64 x.r.page)) 9 (.string x.r.key)) 10 (.bool x.r.bef.has)) 11 (.string x.r.bef.s)) 12 (.bool x.r.aft.has)) 13 (.string x.r.aft.s)) 14 (.int .i64 x.r.undo)), (Blk.set_other (p := ⟨p, 14, none⟩) (Blk.set_other (p := ⟨p, 13, none⟩) (Blk.set_other (p := ⟨p, 12, none⟩) (Blk.set_other (p := ⟨p, 11, none⟩) (Blk.set_other (p := ⟨p, 10, none⟩) (Blk.set_other (p := ⟨p, 9, none⟩) (Blk.set_other (p := ⟨p, 8, none⟩) (Blk.set_other (p := ⟨p, 7, none⟩) (Blk.set_other (p := ⟨p, 6, none⟩) (Blk.set_other (p := ⟨p, 5, none⟩) (Blk.set_other (p := ⟨p, 4, none⟩) (Blk.set_other (p := ⟨p, 3, none⟩) HT.out.bx n2 (.int .i64 x.stream)) n2 (.int .i64 x.r.kind)) n2 (.int .i64 x.r.gsn)) n2 (.int .i64 x.r.txn)) n2 (.int .i64 x.r.prev)) n2 (.int .i64 x.r.page)) n2 (.string x.r.key)) n2 (.bool x.r.bef.has)) n2 (.string x.r.bef.s)) n2 (.bool x.r.aft.has)) n2 (.string x.r.aft.s)) n2 (.int .i64 x.r.undo)), (Chg.setCell (Chg.setCell (Chg.setCell (Chg.setCell (Chg.setCell (Chg.setCell (Chg.setCell (Chg.setCell (Chg.setCell (Chg.setCell (Chg.setCell (Chg.setCell (Chg.of_below (F := fun k => k = p) HT.out.bl) (p := ⟨p, 3, none⟩) rfl (.int .i64 x.stream)) (p := ⟨p, 4, none⟩) rfl (.int .i64 x.r.kind)) (p := ⟨p, 5, none⟩) rfl (.int .i64 x.r.gsn)) (p := ⟨p, 6, none⟩) rfl (.int .i64 x.r.txn)) (p := ⟨p, 7, none⟩) rfl (.int .i64 x.r.prev)) (p := ⟨p, 8, none⟩) rfl (.int .i64 x.r.page)) (p := ⟨p, 9, none⟩) rfl (.string x.r.key)) (p := ⟨p, 10, none⟩) rfl (.bool x.r.bef.has)) (p := ⟨p, 11, none⟩) rfl (.string x.r.bef.s)) (p := ⟨p, 12, none⟩) rfl (.bool x.r.aft.has)) (p := ⟨p, 13, none⟩) rfl (.string x.r.aft.s)) (p := ⟨p, 14, none⟩) rfl (.int .i64 x.r.undo)), rfl⟩
                exact ⟨rfl, MTQ.yes HA.out hU HMT.out (HA.out.now.chg hU.ch (own_ne HA.out.now HA.out.blk (by decide))) (fun k hk => .inl (HA.out.fn k hk)) (by have := HA.out.ln; omega) (HA.out.opn.chg hU.ch (own_ne HA.out.opn HA.out.blk (by decide))) (fun k hk => .inl (HA.out.fo k hk)) (by have := HA.out.lo; omega) (HA.out.kept.chg hU.ch (own_ne HA.out.kept HA.out.blk (by decide))) (fun k hk => .inl (HA.out.fk k hk)) (by have := HA.out.lk; omega), hU.ch.mono (fun k _ h => h ▸ HA.out.fp)⟩
              · have h56 : x.r.kind = 5 ∨ x.r.kind = 6 := by have := hr rfl; omega
                clear hk hk2 hk3 hk4 hr
                rcases h56 with hk | hk
                · have e1 : (x.r.kind == 1) = false := by simp [hk]
                  have e2 : (x.r.kind == 2) = false := by simp [hk]
                  have e3 : (x.r.kind == 3) = false := by simp [hk]
                  have e5 : (x.r.kind == 5) = true := by simp [hk]
                  have e0 : (x.r.kind != 1) = true := by simp [hk]
                  have e9 : decide (x.r.kind < 5) = false := by simp [hk]
                  have hno := HNO.out
                  simp [*] at hno
                  subst hno
                  clear HNO
                  have HMT := Sh.mk (show modTake m x = ⟨(m.kept.foldl (keepStep x) ([], m.now)).2, withF m.opn x.r.txn false, (m.kept.foldl (keepStep x) ([], m.now)).1, x⟩ by unfold modTake; simp [hk])
                  clear hk
                  have z0 := HT.out.l0
                  have x0 := HT.out.x0
                  have f0 := HT.out.bp.frozen 3
                  have z1 := HT.out.l1
                  have x1 := HT.out.x1
                  have f1 := HT.out.bp.frozen 4
                  have z2 := HT.out.l2
                  have x2 := HT.out.x2
                  have f2 := HT.out.bp.frozen 5
                  have z3 := HT.out.l3
                  have x3 := HT.out.x3
                  have f3 := HT.out.bp.frozen 6
                  have z4 := HT.out.l4
                  have x4 := HT.out.x4
                  have f4 := HT.out.bp.frozen 7
                  have z5 := HT.out.l5
                  have x5 := HT.out.x5
                  have f5 := HT.out.bp.frozen 8
                  have z6 := HT.out.l6
                  have x6 := HT.out.x6
                  have f6 := HT.out.bp.frozen 9
                  have z7 := HT.out.l7
                  have x7 := HT.out.x7
                  have f7 := HT.out.bp.frozen 10
                  have z8 := HT.out.l8
                  have x8 := HT.out.x8
                  have f8 := HT.out.bp.frozen 11
                  have z9 := HT.out.l9
                  have x9 := HT.out.x9
                  have f9 := HT.out.bp.frozen 12
                  have z10 := HT.out.l10
                  have x10 := HT.out.x10
                  have f10 := HT.out.bp.frozen 13
                  have z11 := HT.out.l11
                  have x11 := HT.out.x11
                  have f11 := HT.out.bp.frozen 14
                  go_wp2_with fail
                  refine wp_gen (fun W2 => MU (fun k => k = p) w W2 p vn vo vk x) ⟨(Blk.set (Blk.set (Blk.set (Blk.set (Blk.set (Blk.set (Blk.set (Blk.set (Blk.set (Blk.set (Blk.set (Blk.set HT.out.bp 3 (.int .i64 x.stream)) 4 (.int .i64 x.r.kind)) 5 (.int .i64 x.r.gsn)) 6 (.int .i64 x.r.txn)) 7 (.int .i64 x.r.prev)) 8 (.int .i64 x.r.page)) 9 (.string x.r.key)) 10 (.bool x.r.bef.has)) 11 (.string x.r.bef.s)) 12 (.bool x.r.aft.has)) 13 (.string x.r.aft.s)) 14 (.int .i64 x.r.undo)), (Blk.set_other (p := ⟨p, 14, none⟩) (Blk.set_other (p := ⟨p, 13, none⟩) (Blk.set_other (p := ⟨p, 12, none⟩) (Blk.set_other (p := ⟨p, 11, none⟩) (Blk.set_other (p := ⟨p, 10, none⟩) (Blk.set_other (p := ⟨p, 9, none⟩) (Blk.set_other (p := ⟨p, 8, none⟩) (Blk.set_other (p := ⟨p, 7, none⟩) (Blk.set_other (p := ⟨p, 6, none⟩) (Blk.set_other (p := ⟨p, 5, none⟩) (Blk.set_other (p := ⟨p, 4, none⟩) (Blk.set_other (p := ⟨p, 3, none⟩) HT.out.bx n2 (.int .i64 x.stream)) n2 (.int .i64 x.r.kind)) n2 (.int .i64 x.r.gsn)) n2 (.int .i64 x.r.txn)) n2 (.int .i64 x.r.prev)) n2 (.int .i64 x.r.page)) n2 (.string x.r.key)) n2 (.bool x.r.bef.has)) n2 (.string x.r.bef.s)) n2 (.bool x.r.aft.has)) n2 (.string x.r.aft.s)) n2 (.int .i64 x.r.undo)), (Chg.setCell (Chg.setCell (Chg.setCell (Chg.setCell (Chg.setCell (Chg.setCell (Chg.setCell (Chg.setCell (Chg.setCell (Chg.setCell (Chg.setCell (Chg.setCell (Chg.of_below (F := fun k => k = p) HT.out.bl) (p := ⟨p, 3, none⟩) rfl (.int .i64 x.stream)) (p := ⟨p, 4, none⟩) rfl (.int .i64 x.r.kind)) (p := ⟨p, 5, none⟩) rfl (.int .i64 x.r.gsn)) (p := ⟨p, 6, none⟩) rfl (.int .i64 x.r.txn)) (p := ⟨p, 7, none⟩) rfl (.int .i64 x.r.prev)) (p := ⟨p, 8, none⟩) rfl (.int .i64 x.r.page)) (p := ⟨p, 9, none⟩) rfl (.string x.r.key)) (p := ⟨p, 10, none⟩) rfl (.bool x.r.bef.has)) (p := ⟨p, 11, none⟩) rfl (.string x.r.bef.s)) (p := ⟨p, 12, none⟩) rfl (.bool x.r.aft.has)) (p := ⟨p, 13, none⟩) rfl (.string x.r.aft.s)) (p := ⟨p, 14, none⟩) rfl (.int .i64 x.r.undo)), rfl⟩ ?_
                  clear HT
                  intro W2 hU
                  have HU := Sh.mk hU
                  clear hU
                  clear z0 x0 f0 z1 x1 f1 z2 x2 f2 z3 x3 f3 z4 x4 f4 z5 x5 f5 z6 x6 f6 z7 x7 f7 z8 x8 f8 z9 x9 f9 z10 x10 f10 z11 x11 f11
                  have HWT := Sh.mk (fun W (h : MU (fun k => k = p) w W p vn vo vk x) => with_own x.r.txn false W (HA.out.opn.chg h.ch (own_ne HA.out.opn HA.out.blk (by decide))) (by have := HA.out.lo; omega))
                  refine wp_region_noPanic ?_
                  refine wpN_begin 11 (fun W => MU (fun k => k = p) w W p vn vo vk x) (by kernel_rfl) ?_
                  have hS : (fun W => MU (fun k => k = p) w W p vn vo vk x) (World.drew _) := HU.out.drew
                  refine wpN_take (i := 0) (v := ?_) rfl rfl (by kernel_rfl) (by kernel_rfl) (by kernel_rfl) (by kernel_rfl) (fun _ _ _ h => h) (Or.inl ⟨by kernel_rfl, ?hy⟩) hS ?_
                  case hy =>
                    intro W hW
                    skip
                    go_simp
                    try with_reducible rfl
                  (try simp only [Act.put]); (try simp only [List.setIfInBounds_toArray]); (try simp only [List.set_cons_succ]); (try simp only [List.set_cons_zero])
                  refine wpN_take (i := 1) (v := ?_) rfl rfl (by kernel_rfl) (by kernel_rfl) (by kernel_rfl) (by kernel_rfl) (fun _ _ _ h => h) (Or.inl ⟨by kernel_rfl, ?hy⟩) hS ?_
                  case hy =>
                    intro W hW
                    skip
                    go_simp
                    try with_reducible rfl
                  (try simp only [Act.put]); (try simp only [List.setIfInBounds_toArray]); (try simp only [List.set_cons_succ]); (try simp only [List.set_cons_zero])
                  refine wpN_take (i := 2) (v := ?_) rfl rfl (by kernel_rfl) (by kernel_rfl) (by kernel_rfl) (by kernel_rfl) (fun _ _ _ h => h) (Or.inl ⟨by kernel_rfl, ?hy⟩) hS ?_
                  case hy =>
                    intro W hW
                    skip
                    go_simp
                    try with_reducible rfl
                  (try simp only [Act.put]); (try simp only [List.setIfInBounds_toArray]); (try simp only [List.set_cons_succ]); (try simp only [List.set_cons_zero])
                  refine wpN_take (i := 3) (v := ?_) rfl rfl (by kernel_rfl) (by kernel_rfl) (by kernel_rfl) (by kernel_rfl) (fun _ _ _ h => h) (Or.inl ⟨by kernel_rfl, ?hy⟩) hS ?_
                  case hy =>
                    intro W hW
                    skip
                    go_simp
                    try with_reducible rfl
                  (try simp only [Act.put]); (try simp only [List.setIfInBounds_toArray]); (try simp only [List.set_cons_succ]); (try simp only [List.set_cons_zero])
                  refine wpN_take (i := 4) (v := ?_) rfl rfl (by kernel_rfl) (by kernel_rfl) (by kernel_rfl) (by kernel_rfl) (fun _ _ _ h => h) (Or.inl ⟨by kernel_rfl, ?hy⟩) hS ?_
                  case hy =>
                    intro W hW
                    have y := hW.c1
                    go_simp
                    try with_reducible rfl
                  (try simp only [Act.put]); (try simp only [List.setIfInBounds_toArray]); (try simp only [List.set_cons_succ]); (try simp only [List.set_cons_zero])
                  refine wpN_take (i := 5) (v := ?_) rfl rfl (by kernel_rfl) (by kernel_rfl) (by kernel_rfl) (by kernel_rfl) (fun _ _ _ h => h) (Or.inl ⟨by kernel_rfl, ?hy⟩) hS ?_
                  case hy =>
                    intro W hW
                    skip
                    go_simp
                    try with_reducible rfl
                  (try simp only [Act.put]); (try simp only [List.setIfInBounds_toArray]); (try simp only [List.set_cons_succ]); (try simp only [List.set_cons_zero])
                  refine wpN_take (i := 6) (v := ?_) rfl rfl (by kernel_rfl) (by kernel_rfl) (by kernel_rfl) (by kernel_rfl) (fun _ _ _ h => h) (Or.inl ⟨by kernel_rfl, ?hy⟩) hS ?_
                  case hy =>
                    intro W hW
                    skip
                    go_simp
                    try with_reducible rfl
                  (try simp only [Act.put]); (try simp only [List.setIfInBounds_toArray]); (try simp only [List.set_cons_succ]); (try simp only [List.set_cons_zero])
                  refine wpN_take (i := 7) (v := ?_) rfl rfl (by kernel_rfl) (by kernel_rfl) (by kernel_rfl) (by kernel_rfl) (fun _ _ _ h => h) (Or.inl ⟨by kernel_rfl, ?hy⟩) hS ?_
                  case hy =>
                    intro W hW
                    have y := hW.x3
                    go_simp
                    try with_reducible rfl
                  (try simp only [Act.put]); (try simp only [List.setIfInBounds_toArray]); (try simp only [List.set_cons_succ]); (try simp only [List.set_cons_zero])
                  refine wpN_only (i := 8) rfl (by kernel_rfl) (fun K hK => ?_)
                  go_simp
                  go_at_call 22
                  refine (HWT.out _ hS).mono ?_
                  rintro e w' ⟨v1, rfl, ho1, hb2⟩
                  have HB2 := Sh.mk hb2
                  obtain ⟨A1, d1, hv1, -, -, -⟩ := ho1.reads (fun _ => rfl)
                  subst hv1
                  have HO1 := Sh.mk ho1
                  clear ho1
                  refine goto hK (hS.below hb2) ?_
                  clear hS hK K
                  intro hS
                  (try simp only [Act.put]); (try simp only [List.setIfInBounds_toArray]); (try simp only [List.set_cons_succ]); (try simp only [List.set_cons_zero])
                  refine wpN_only (i := 9) rfl (by kernel_rfl) (fun K hK => ?_)
                  go_simp
                  refine goto hK hS ?_
                  clear hS hK K
                  intro hS
                  (try simp only [Act.put]); (try simp only [List.setIfInBounds_toArray]); (try simp only [List.set_cons_succ]); (try simp only [List.set_cons_zero])
                  refine wpN_only (i := 10) rfl (by kernel_rfl) (fun K hK => ?_)
                  go_simp
                  refine goto hK hS ?_
                  clear hS hK K
                  intro hS
                  (try simp only [Act.put]); (try simp only [List.setIfInBounds_toArray]); (try simp only [List.set_cons_succ]); (try simp only [List.set_cons_zero])
                  refine wpN_only (i := 11) rfl (by kernel_rfl) (fun K hK => ?_)
                  have c1 := hS.c1
                  have f1 := hS.bp.frozen 1
                  go_simp
                  refine hK.out _ _ (.inl rfl) ?_
                  clear hK K
                  refine wpN_done (by kernel_rfl) ?_ _
                  refine NoPanic.normal ?_
                  refine then_gen (fun W3 => MU (fun k => k = p) w W3 p vn (.slice A1 (withF m.opn x.r.txn false).length d1) vk x ∧ Own encInt 3 1 W3 0 (.slice A1 (withF m.opn x.r.txn false).length d1) (withF m.opn x.r.txn false) ∧ ∀ k, ((.slice A1 (withF m.opn x.r.txn false).length d1) : Value).ownBlock = some k → F k ∨ w.heap.size ≤ k) ⟨hS.set1 n1 _, (HO1.out.lower (Nat.zero_le _)).chg (Chg.setCell (Chg.refl (fun k => k = p) _) (p := ⟨p, 1, none⟩) rfl _) (fun k hk e => own_ne HO1.out hS.bp (by decide) k hk e), fun k hk => .inr (by have := (HO1.out.lt k hk).1; have := HU.out.ch.size; simp at *; omega)⟩ ?_
                  clear hS HO1 HB2 HWT HU
                  rintro W3 ⟨hU, ho, hb⟩
                  have HU := Sh.mk hU
                  have HO1 := Sh.mk ho
                  have HBK := Sh.mk hb
                  have y1 := hU.x1
                  clear hU ho hb
                  obtain ⟨Ak, ck, hvk, hkc, hkm, hkr⟩ := HA.out.kept.reads (fun _ => rfl)
                  have HKR := Sh.mk hkr
                  subst hvk
                  clear hkr
                  have hlk : m.kept.length ≤ 9223372036854775807 := by have := HA.out.lk; omega
                  have hpW : p < W3.heap.size := HU.out.bp.lt
                  have hwW : w.heap.size < W3.heap.size := HU.out.bx.lt
                  have HAM := Sh.mk (show ∀ k, ((m.kept.take k).foldl (keepStep x) ([], m.now)).1.length ≤ k ∧ ((m.kept.take k).foldl (keepStep x) ([], m.now)).2.length ≤ m.now.length + k from fun k => by
                    have h := keep_len x m.now (m.kept.take k)
                    have := List.length_take_le k m.kept
                    omega)
                  go_wp2_with fail
                  go_loopw [6, 7] (fun r i wr => ∃ (k : Nat) (vn' : Value), k ≤ m.kept.length ∧ i = .int .i64 k ∧ Sh (LP F w W3 wr p vn' (.slice A1 (withF m.opn x.r.txn false).length d1) (.slice Ak m.kept.length ck) r x ((m.kept.take k).foldl (keepStep x) ([], m.now)))) (fun _ i _ => m.kept.length - (intOf i).toNat)
                  case atStart => exact ⟨0, vn, Nat.zero_le _, rfl, ⟨HU.out, Chg.refl _ _, Own.nil _ _ _ _ _, HA.out.now.chg HU.out.ch (own_ne HA.out.now HA.out.blk (by decide)), fun k hk => .inl (HA.out.fn k hk)⟩⟩
                  case round =>
                    obtain ⟨k, vn', hk, rfl, HL⟩ := hrel
                    clear y1
                    have HLN := Sh.mk (HAM.out k)
                    have y1 := HL.out.u.x1
                    have y3 := HL.out.u.x3
                    have c2 := HL.out.u.c2
                    by_cases hlt : k < m.kept.length
                    · obtain ⟨y, hy⟩ : ∃ y, y = m.kept[k] := ⟨_, rfl⟩
                      obtain ⟨b, off, hAk, hc⟩ := HKR.out k hlt
                      subst hAk
                      have HFS := Sh.mk (foldl_succ (keepStep x) ([], m.now) m.kept k hlt hy)
                      rw [← hy] at hc
                      have hbp : ¬ b = p := fun e => own_ne HA.out.kept HA.out.blk (by decide) b rfl e
                      have HC := Sh.mk (fun W (h : Chg (fun k => k = p) w W) (j : Nat) (v : Value) (hv : (encRec y)[j]? = some v) => h.cell_of (hc j v hv) hbp)
                      clear hc hy
                      generalize (m.kept.take k).foldl (keepStep x) ([], m.now) = s at HL HLN HFS
                      by_cases ht : y.txn = x.r.txn
                      · have hz : (y.txn != x.r.txn) = false := by simp [ht]
                        have HT := Sh.mk ht
                        clear ht
                        have q2 := HC.out wr HL.out.u.ch 2 _ rfl
                        go_wp2_with fail
                        go_quiet (fail)
                        refine then_gen (fun W5 => LP F w W3 W5 p vn' (.slice A1 (withF m.opn x.r.txn false).length d1) (.slice (some ⟨b, off, none⟩) m.kept.length ck) u6 x s) (HL.out.below (bl_drewN (Below.refl _ _) _)) ?_
                        clear HL y1 y3 c2 q2
                        intro W5 hL
                        have HL := Sh.mk hL
                        clear hL
                        have y1 := HL.out.u.x1
                        go_wp2_with fail
                        refine wp_region_noPanic ?_
                        refine wpN_begin 24 (fun W => LP F w W3 W p vn' (.slice A1 (withF m.opn x.r.txn false).length d1) (.slice (some ⟨b, off, none⟩) m.kept.length ck) u6 x s) (by kernel_rfl) ?_
                        have hS : (fun W => LP F w W3 W p vn' (.slice A1 (withF m.opn x.r.txn false).length d1) (.slice (some ⟨b, off, none⟩) m.kept.length ck) u6 x s) (World.drew _) := (HL.out.below (bl_drew (Below.refl _ _)))
                        refine wpN_take (i := 0) (v := ?_) rfl rfl (by kernel_rfl) (by kernel_rfl) (by kernel_rfl) (by kernel_rfl) (fun _ _ _ h => h) (Or.inl ⟨by kernel_rfl, ?hy⟩) hS ?_
                        case hy =>
                          intro W hW
                          skip
                          go_simp
                          try with_reducible rfl
                        (try simp only [Act.put]); (try simp only [List.setIfInBounds_toArray]); (try simp only [List.set_cons_succ]); (try simp only [List.set_cons_zero])
                        refine wpN_take (i := 1) (v := ?_) rfl rfl (by kernel_rfl) (by kernel_rfl) (by kernel_rfl) (by kernel_rfl) (fun _ _ _ h => h) (Or.inl ⟨by kernel_rfl, ?hy⟩) hS ?_
                        case hy =>
                          intro W hW
                          skip
                          go_simp
                          try with_reducible rfl
                        (try simp only [Act.put]); (try simp only [List.setIfInBounds_toArray]); (try simp only [List.set_cons_succ]); (try simp only [List.set_cons_zero])
                        refine wpN_take (i := 2) (v := ?_) rfl rfl (by kernel_rfl) (by kernel_rfl) (by kernel_rfl) (by kernel_rfl) (fun _ _ _ h => h) (Or.inl ⟨by kernel_rfl, ?hy⟩) hS ?_
                        case hy =>
                          intro W hW
                          skip
                          go_simp
                          try with_reducible rfl
                        (try simp only [Act.put]); (try simp only [List.setIfInBounds_toArray]); (try simp only [List.set_cons_succ]); (try simp only [List.set_cons_zero])
                        refine wpN_take (i := 3) (v := ?_) rfl rfl (by kernel_rfl) (by kernel_rfl) (by kernel_rfl) (by kernel_rfl) (fun _ _ _ h => h) (Or.inl ⟨by kernel_rfl, ?hy⟩) hS ?_
                        case hy =>
                          intro W hW
                          skip
                          go_simp
                          try with_reducible rfl
                        (try simp only [Act.put]); (try simp only [List.setIfInBounds_toArray]); (try simp only [List.set_cons_succ]); (try simp only [List.set_cons_zero])
                        refine wpN_take (i := 4) (v := ?_) rfl rfl (by kernel_rfl) (by kernel_rfl) (by kernel_rfl) (by kernel_rfl) (fun _ _ _ h => h) (Or.inl ⟨by kernel_rfl, ?hy⟩) hS ?_
                        case hy =>
                          intro W hW
                          have z := hW.u.c0
                          go_simp
                          try with_reducible rfl
                        (try simp only [Act.put]); (try simp only [List.setIfInBounds_toArray]); (try simp only [List.set_cons_succ]); (try simp only [List.set_cons_zero])
                        refine wpN_take (i := 5) (v := ?_) rfl rfl (by kernel_rfl) (by kernel_rfl) (by kernel_rfl) (by kernel_rfl) (fun _ _ _ h => h) (Or.inl ⟨by kernel_rfl, ?hy⟩) hS ?_
                        case hy =>
                          intro W hW
                          skip
                          go_simp
                          try with_reducible rfl
                        (try simp only [Act.put]); (try simp only [List.setIfInBounds_toArray]); (try simp only [List.set_cons_succ]); (try simp only [List.set_cons_zero])
                        refine wpN_take (i := 6) (v := ?_) rfl rfl (by kernel_rfl) (by kernel_rfl) (by kernel_rfl) (by kernel_rfl) (fun _ _ _ h => h) (Or.inl ⟨by kernel_rfl, ?hy⟩) hS ?_
                        case hy =>
                          intro W hW
                          skip
                          go_simp
                          try with_reducible rfl
                        (try simp only [Act.put]); (try simp only [List.setIfInBounds_toArray]); (try simp only [List.set_cons_succ]); (try simp only [List.set_cons_zero])
                        refine wpN_take (i := 7) (v := ?_) rfl rfl (by kernel_rfl) (by kernel_rfl) (by kernel_rfl) (by kernel_rfl) (fun _ _ _ h => h) (Or.inl ⟨by kernel_rfl, ?hy⟩) hS ?_
                        case hy =>
                          intro W hW
                          skip
                          go_simp
                          try with_reducible rfl
                        (try simp only [Act.put]); (try simp only [List.setIfInBounds_toArray]); (try simp only [List.set_cons_succ]); (try simp only [List.set_cons_zero])
                        refine wpN_take (i := 8) (v := ?_) rfl rfl (by kernel_rfl) (by kernel_rfl) (by kernel_rfl) (by kernel_rfl) (fun _ _ _ h => h) (Or.inl ⟨by kernel_rfl, ?hy⟩) hS ?_
                        case hy =>
                          intro W hW
                          have z := hW.u.c2
                          go_simp
                          try with_reducible rfl
                        (try simp only [Act.put]); (try simp only [List.setIfInBounds_toArray]); (try simp only [List.set_cons_succ]); (try simp only [List.set_cons_zero])
                        refine wpN_take (i := 9) (v := ?_) rfl rfl (by kernel_rfl) (by kernel_rfl) (by kernel_rfl) (by kernel_rfl) (fun _ _ _ h => h) (Or.inl ⟨by kernel_rfl, ?hy⟩) hS ?_
                        case hy =>
                          intro W hW
                          skip
                          go_simp
                          try with_reducible rfl
                        (try simp only [Act.put]); (try simp only [List.setIfInBounds_toArray]); (try simp only [List.set_cons_succ]); (try simp only [List.set_cons_zero])
                        refine wpN_take (i := 10) (v := ?_) rfl rfl (by kernel_rfl) (by kernel_rfl) (by kernel_rfl) (by kernel_rfl) (fun _ _ _ h => h) (Or.inl ⟨by kernel_rfl, ?hy⟩) hS ?_
                        case hy =>
                          intro W hW
                          skip
                          go_simp
                          try with_reducible rfl
                        (try simp only [Act.put]); (try simp only [List.setIfInBounds_toArray]); (try simp only [List.set_cons_succ]); (try simp only [List.set_cons_zero])
                        refine wpN_take (i := 11) (v := ?_) rfl rfl (by kernel_rfl) (by kernel_rfl) (by kernel_rfl) (by kernel_rfl) (fun _ _ _ h => h) (Or.inl ⟨by kernel_rfl, ?hy⟩) hS ?_
                        case hy =>
                          intro W hW
                          skip
                          go_simp
                          try with_reducible rfl
                        (try simp only [Act.put]); (try simp only [List.setIfInBounds_toArray]); (try simp only [List.set_cons_succ]); (try simp only [List.set_cons_zero])
                        refine wpN_take (i := 12) (v := ?_) rfl rfl (by kernel_rfl) (by kernel_rfl) (by kernel_rfl) (by kernel_rfl) (fun _ _ _ h => h) (Or.inl ⟨by kernel_rfl, ?hy⟩) hS ?_
                        case hy =>
                          intro W hW
                          have z := HC.out W hW.u.ch 5 _ rfl
                          go_simp
                          try with_reducible rfl
                        (try simp only [Act.put]); (try simp only [List.setIfInBounds_toArray]); (try simp only [List.set_cons_succ]); (try simp only [List.set_cons_zero])
                        refine wpN_take (i := 13) (v := ?_) rfl rfl (by kernel_rfl) (by kernel_rfl) (by kernel_rfl) (by kernel_rfl) (fun _ _ _ h => h) (Or.inl ⟨by kernel_rfl, ?hy⟩) hS ?_
                        case hy =>
                          intro W hW
                          skip
                          go_simp
                          try with_reducible rfl
                        (try simp only [Act.put]); (try simp only [List.setIfInBounds_toArray]); (try simp only [List.set_cons_succ]); (try simp only [List.set_cons_zero])
                        refine wpN_take (i := 14) (v := ?_) rfl rfl (by kernel_rfl) (by kernel_rfl) (by kernel_rfl) (by kernel_rfl) (fun _ _ _ h => h) (Or.inl ⟨by kernel_rfl, ?hy⟩) hS ?_
                        case hy =>
                          intro W hW
                          skip
                          go_simp
                          try with_reducible rfl
                        (try simp only [Act.put]); (try simp only [List.setIfInBounds_toArray]); (try simp only [List.set_cons_succ]); (try simp only [List.set_cons_zero])
                        refine wpN_take (i := 15) (v := ?_) rfl rfl (by kernel_rfl) (by kernel_rfl) (by kernel_rfl) (by kernel_rfl) (fun _ _ _ h => h) (Or.inl ⟨by kernel_rfl, ?hy⟩) hS ?_
                        case hy =>
                          intro W hW
                          skip
                          go_simp
                          try with_reducible rfl
                        (try simp only [Act.put]); (try simp only [List.setIfInBounds_toArray]); (try simp only [List.set_cons_succ]); (try simp only [List.set_cons_zero])
                        refine wpN_take (i := 16) (v := ?_) rfl rfl (by kernel_rfl) (by kernel_rfl) (by kernel_rfl) (by kernel_rfl) (fun _ _ _ h => h) (Or.inl ⟨by kernel_rfl, ?hy⟩) hS ?_
                        case hy =>
                          intro W hW
                          have z := hW.u.c2
                          go_simp
                          try with_reducible rfl
                        (try simp only [Act.put]); (try simp only [List.setIfInBounds_toArray]); (try simp only [List.set_cons_succ]); (try simp only [List.set_cons_zero])
                        refine wpN_take (i := 17) (v := ?_) rfl rfl (by kernel_rfl) (by kernel_rfl) (by kernel_rfl) (by kernel_rfl) (fun _ _ _ h => h) (Or.inl ⟨by kernel_rfl, ?hy⟩) hS ?_
                        case hy =>
                          intro W hW
                          skip
                          go_simp
                          try with_reducible rfl
                        (try simp only [Act.put]); (try simp only [List.setIfInBounds_toArray]); (try simp only [List.set_cons_succ]); (try simp only [List.set_cons_zero])
                        refine wpN_take (i := 18) (v := ?_) rfl rfl (by kernel_rfl) (by kernel_rfl) (by kernel_rfl) (by kernel_rfl) (fun _ _ _ h => h) (Or.inl ⟨by kernel_rfl, ?hy⟩) hS ?_
                        case hy =>
                          intro W hW
                          skip
                          go_simp
                          try with_reducible rfl
                        (try simp only [Act.put]); (try simp only [List.setIfInBounds_toArray]); (try simp only [List.set_cons_succ]); (try simp only [List.set_cons_zero])
                        refine wpN_take (i := 19) (v := ?_) rfl rfl (by kernel_rfl) (by kernel_rfl) (by kernel_rfl) (by kernel_rfl) (fun _ _ _ h => h) (Or.inl ⟨by kernel_rfl, ?hy⟩) hS ?_
                        case hy =>
                          intro W hW
                          skip
                          go_simp
                          try with_reducible rfl
                        (try simp only [Act.put]); (try simp only [List.setIfInBounds_toArray]); (try simp only [List.set_cons_succ]); (try simp only [List.set_cons_zero])
                        refine wpN_take (i := 20) (v := ?_) rfl rfl (by kernel_rfl) (by kernel_rfl) (by kernel_rfl) (by kernel_rfl) (fun _ _ _ h => h) (Or.inl ⟨by kernel_rfl, ?hy⟩) hS ?_
                        case hy =>
                          intro W hW
                          have z := HC.out W hW.u.ch 8 _ rfl; have z1 := HC.out W hW.u.ch 9 _ rfl
                          go_simp
                          try with_reducible rfl
                        (try simp only [Act.put]); (try simp only [List.setIfInBounds_toArray]); (try simp only [List.set_cons_succ]); (try simp only [List.set_cons_zero])
                        refine wpN_only (i := 21) rfl (by kernel_rfl) (fun K hK => ?_)
                        go_simp
                        go_at_call 7
                        refine (set_own y.key y.aft _ hS.n (by have := HLN.out.2; have := HA.out.ln; have := HA.out.lk; omega)).mono ?_
                        rintro e w' ⟨v9, rfl, ho9, hb2⟩
                        have HB2 := Sh.mk hb2
                        obtain ⟨A9, d9, hv9, -, -, -⟩ := ho9.reads (fun _ => rfl)
                        subst hv9
                        have HO9 := Sh.mk ho9
                        clear ho9
                        refine goto hK (hS.below hb2) ?_
                        clear hS hK K
                        intro hS
                        (try simp only [Act.put]); (try simp only [List.setIfInBounds_toArray]); (try simp only [List.set_cons_succ]); (try simp only [List.set_cons_zero])
                        refine wpN_only (i := 22) rfl (by kernel_rfl) (fun K hK => ?_)
                        go_simp
                        refine goto hK hS ?_
                        clear hS hK K
                        intro hS
                        (try simp only [Act.put]); (try simp only [List.setIfInBounds_toArray]); (try simp only [List.set_cons_succ]); (try simp only [List.set_cons_zero])
                        refine wpN_only (i := 23) rfl (by kernel_rfl) (fun K hK => ?_)
                        go_simp
                        refine goto hK hS ?_
                        clear hS hK K
                        intro hS
                        (try simp only [Act.put]); (try simp only [List.setIfInBounds_toArray]); (try simp only [List.set_cons_succ]); (try simp only [List.set_cons_zero])
                        refine wpN_only (i := 24) rfl (by kernel_rfl) (fun K hK => ?_)
                        have c0 := hS.u.c0
                        have f0 := hS.u.bp.frozen 0
                        go_simp
                        refine hK.out _ _ (.inl rfl) ?_
                        clear hK K
                        refine wpN_done (by kernel_rfl) ?_ _
                        refine NoPanic.normal ?_
                        have hL6 := LP.set hS HO9.out (by have := HL.out.u.ch.size; simp; omega) n1 (fun k hk e => by have := (hS.r.lt k hk).1; omega)
                        have HL6 := Sh.mk hL6
                        clear hL6 hS HB2 HO9 HL y1
                        go_wp2_with fail
                        go_roundw
                        case rel =>
                          refine ⟨k + 1, .slice A9 (setF s.2 y.key y.aft).length d9, by omega, by go_num, ⟨?_⟩⟩
                          rw [HFS.out, show keepStep x s y = (s.1, setF s.2 y.key y.aft) by unfold keepStep; simp [HT.out, e5]]
                          exact HL6.out
                        case measure => simp [intOf]; omega
                      · have hz : (y.txn != x.r.txn) = true := by simp [ht]
                        have HT := Sh.mk ht
                        clear ht
                        have q2 := HC.out wr HL.out.u.ch 2 _ rfl
                        go_wp2_with fail
                        go_quiet (fail)
                        refine then_gen (fun W5 => LP F w W3 W5 p vn' (.slice A1 (withF m.opn x.r.txn false).length d1) (.slice (some ⟨b, off, none⟩) m.kept.length ck) u6 x s) (HL.out.below (bl_drewN (Below.refl _ _) _)) ?_
                        clear HL y1 y3 c2 q2
                        intro W5 hL
                        have HL := Sh.mk hL
                        clear hL
                        have c2 := HL.out.u.c2
                        have q0 : W5.cell? ⟨b, off + k * 11, none⟩ = some (.int .i64 y.kind) := HC.out W5 HL.out.u.ch 0 _ rfl
                        have q1 : W5.cell? ⟨b, off + k * 11 + 1, none⟩ = some (.int .i64 y.gsn) := HC.out W5 HL.out.u.ch 1 _ rfl
                        have q2 : W5.cell? ⟨b, off + k * 11 + 2, none⟩ = some (.int .i64 y.txn) := HC.out W5 HL.out.u.ch 2 _ rfl
                        have q3 : W5.cell? ⟨b, off + k * 11 + 3, none⟩ = some (.int .i64 y.prev) := HC.out W5 HL.out.u.ch 3 _ rfl
                        have q4 : W5.cell? ⟨b, off + k * 11 + 4, none⟩ = some (.int .i64 y.page) := HC.out W5 HL.out.u.ch 4 _ rfl
                        have q5 : W5.cell? ⟨b, off + k * 11 + 5, none⟩ = some (.string y.key) := HC.out W5 HL.out.u.ch 5 _ rfl
                        have q6 : W5.cell? ⟨b, off + k * 11 + 6, none⟩ = some (.bool y.bef.has) := HC.out W5 HL.out.u.ch 6 _ rfl
                        have q7 : W5.cell? ⟨b, off + k * 11 + 7, none⟩ = some (.string y.bef.s) := HC.out W5 HL.out.u.ch 7 _ rfl
                        have q8 : W5.cell? ⟨b, off + k * 11 + 8, none⟩ = some (.bool y.aft.has) := HC.out W5 HL.out.u.ch 8 _ rfl
                        have q9 : W5.cell? ⟨b, off + k * 11 + 9, none⟩ = some (.string y.aft.s) := HC.out W5 HL.out.u.ch 9 _ rfl
                        have q10 : W5.cell? ⟨b, off + k * 11 + 10, none⟩ = some (.int .i64 y.undo) := HC.out W5 HL.out.u.ch 10 _ rfl
                        go_wp2_with (at_builtin; refine Sh.out ?_)
                        refine ⟨?_⟩
                        refine wpl_push E_rec rfl _ _ rfl W3.heap.size _ s.1 y W5.heap.size rfl rfl (HL.out.r.alloc _) (by exact Blk.new W5 _ _) (by have := HLN.out.1; have := HA.out.lk; omega) (by have := HLN.out.1; have := HA.out.lk; unfold maxLen; omega) (by have := HL.out.c.size; simp; omega) ?_
                        intro r6 W6 ho hch _
                        have hL6 := LP.push (HL.out.below (bl_alloc (Below.refl _ _) _)) hch ho hpW hwW
                        have HL6 := Sh.mk hL6
                        clear hL6 ho hch HL c2 q0 q1 q2 q3 q4 q5 q6 q7 q8 q9 q10
                        go_wp2_with fail
                        go_roundw
                        case rel =>
                          refine ⟨k + 1, vn', by omega, by go_num, ⟨?_⟩⟩
                          rw [HFS.out, show keepStep x s y = (s.1 ++ [y], s.2) by unfold keepStep; simp [HT.out]]
                          exact HL6.out
                        case measure => simp [intOf]; omega
                    · obtain rfl : k = m.kept.length := by omega
                      rw [List.take_length] at HL HLN
                      generalize hf : m.kept.foldl (keepStep x) ([], m.now) = s at HL HLN HMT
                      have f2 := HL.out.u.bp.frozen 2
                      have hr := HL.out.r.reads (fun _ => rfl)
                      obtain ⟨Ar, cr, hvr, -, -, -⟩ := hr
                      subst hvr
                      go_wp2_with fail
                      go_ret
                      have hlw := put_length (fun y => decide (x.r.txn ≤ y)) (fun y => y != x.r.txn) x.r.txn false m.opn
                      have hU := HL.out.u.set2 n1 (.slice Ar s.1.length cr)
                      have hcs : Chg (fun k => k = p) _ _ := (Chg.refl (fun k => k = p) wr).setCell (p := ⟨p, 2, none⟩) rfl (.slice Ar s.1.length cr)
                      have hn := HL.out.n.chg hcs (own_ne HL.out.n HL.out.u.bp (by decide))
                      have ho := (HO1.out.chg HL.out.c (own_ne HO1.out HU.out.bp (by decide))).chg hcs (own_ne (HO1.out.chg HL.out.c (own_ne HO1.out HU.out.bp (by decide))) HL.out.u.bp (by decide))
                      have hr := (HL.out.r.lower (Nat.zero_le _)).chg hcs (own_ne HL.out.r HL.out.u.bp (by decide))
                      exact ⟨rfl, MTQ.yes HA.out hU HMT.out hn HL.out.b (by have := HLN.out.2; have := HA.out.ln; have := HA.out.lk; omega) ho HBK.out (by have := HA.out.lo; unfold withF; omega) hr (fun k hk => .inr (by have := (HL.out.r.lt k hk).1; omega)) (by have := HLN.out.1; have := HA.out.lk; omega), hU.ch.mono (fun k _ h => h ▸ HA.out.fp)⟩
                · have e1 : (x.r.kind == 1) = false := by simp [hk]
                  have e2 : (x.r.kind == 2) = false := by simp [hk]
                  have e3 : (x.r.kind == 3) = false := by simp [hk]
                  have e5 : (x.r.kind == 5) = false := by simp [hk]
                  have e0 : (x.r.kind != 1) = true := by simp [hk]
                  have e9 : decide (x.r.kind < 5) = false := by simp [hk]
                  have hno := HNO.out
                  simp [*] at hno
                  subst hno
                  clear HNO
                  have HMT := Sh.mk (show modTake m x = ⟨(m.kept.foldl (keepStep x) ([], m.now)).2, withF m.opn x.r.txn false, (m.kept.foldl (keepStep x) ([], m.now)).1, x⟩ by unfold modTake; simp [hk])
                  clear hk
                  have z0 := HT.out.l0
                  have x0 := HT.out.x0
                  have f0 := HT.out.bp.frozen 3
                  have z1 := HT.out.l1
                  have x1 := HT.out.x1
                  have f1 := HT.out.bp.frozen 4
                  have z2 := HT.out.l2
                  have x2 := HT.out.x2
                  have f2 := HT.out.bp.frozen 5
                  have z3 := HT.out.l3
                  have x3 := HT.out.x3
                  have f3 := HT.out.bp.frozen 6
                  have z4 := HT.out.l4
                  have x4 := HT.out.x4
                  have f4 := HT.out.bp.frozen 7
                  have z5 := HT.out.l5
                  have x5 := HT.out.x5
                  have f5 := HT.out.bp.frozen 8
                  have z6 := HT.out.l6
                  have x6 := HT.out.x6
                  have f6 := HT.out.bp.frozen 9
                  have z7 := HT.out.l7
                  have x7 := HT.out.x7
                  have f7 := HT.out.bp.frozen 10
                  have z8 := HT.out.l8
                  have x8 := HT.out.x8
                  have f8 := HT.out.bp.frozen 11
                  have z9 := HT.out.l9
                  have x9 := HT.out.x9
                  have f9 := HT.out.bp.frozen 12
                  have z10 := HT.out.l10
                  have x10 := HT.out.x10
                  have f10 := HT.out.bp.frozen 13
                  have z11 := HT.out.l11
                  have x11 := HT.out.x11
                  have f11 := HT.out.bp.frozen 14
                  go_wp2_with fail
                  refine wp_gen (fun W2 => MU (fun k => k = p) w W2 p vn vo vk x) ⟨(Blk.set (Blk.set (Blk.set (Blk.set (Blk.set (Blk.set (Blk.set (Blk.set (Blk.set (Blk.set (Blk.set (Blk.set HT.out.bp 3 (.int .i64 x.stream)) 4 (.int .i64 x.r.kind)) 5 (.int .i64 x.r.gsn)) 6 (.int .i64 x.r.txn)) 7 (.int .i64 x.r.prev)) 8 (.int .i64 x.r.page)) 9 (.string x.r.key)) 10 (.bool x.r.bef.has)) 11 (.string x.r.bef.s)) 12 (.bool x.r.aft.has)) 13 (.string x.r.aft.s)) 14 (.int .i64 x.r.undo)), (Blk.set_other (p := ⟨p, 14, none⟩) (Blk.set_other (p := ⟨p, 13, none⟩) (Blk.set_other (p := ⟨p, 12, none⟩) (Blk.set_other (p := ⟨p, 11, none⟩) (Blk.set_other (p := ⟨p, 10, none⟩) (Blk.set_other (p := ⟨p, 9, none⟩) (Blk.set_other (p := ⟨p, 8, none⟩) (Blk.set_other (p := ⟨p, 7, none⟩) (Blk.set_other (p := ⟨p, 6, none⟩) (Blk.set_other (p := ⟨p, 5, none⟩) (Blk.set_other (p := ⟨p, 4, none⟩) (Blk.set_other (p := ⟨p, 3, none⟩) HT.out.bx n2 (.int .i64 x.stream)) n2 (.int .i64 x.r.kind)) n2 (.int .i64 x.r.gsn)) n2 (.int .i64 x.r.txn)) n2 (.int .i64 x.r.prev)) n2 (.int .i64 x.r.page)) n2 (.string x.r.key)) n2 (.bool x.r.bef.has)) n2 (.string x.r.bef.s)) n2 (.bool x.r.aft.has)) n2 (.string x.r.aft.s)) n2 (.int .i64 x.r.undo)), (Chg.setCell (Chg.setCell (Chg.setCell (Chg.setCell (Chg.setCell (Chg.setCell (Chg.setCell (Chg.setCell (Chg.setCell (Chg.setCell (Chg.setCell (Chg.setCell (Chg.of_below (F := fun k => k = p) HT.out.bl) (p := ⟨p, 3, none⟩) rfl (.int .i64 x.stream)) (p := ⟨p, 4, none⟩) rfl (.int .i64 x.r.kind)) (p := ⟨p, 5, none⟩) rfl (.int .i64 x.r.gsn)) (p := ⟨p, 6, none⟩) rfl (.int .i64 x.r.txn)) (p := ⟨p, 7, none⟩) rfl (.int .i64 x.r.prev)) (p := ⟨p, 8, none⟩) rfl (.int .i64 x.r.page)) (p := ⟨p, 9, none⟩) rfl (.string x.r.key)) (p := ⟨p, 10, none⟩) rfl (.bool x.r.bef.has)) (p := ⟨p, 11, none⟩) rfl (.string x.r.bef.s)) (p := ⟨p, 12, none⟩) rfl (.bool x.r.aft.has)) (p := ⟨p, 13, none⟩) rfl (.string x.r.aft.s)) (p := ⟨p, 14, none⟩) rfl (.int .i64 x.r.undo)), rfl⟩ ?_
                  clear HT
                  intro W2 hU
                  have HU := Sh.mk hU
                  clear hU
                  clear z0 x0 f0 z1 x1 f1 z2 x2 f2 z3 x3 f3 z4 x4 f4 z5 x5 f5 z6 x6 f6 z7 x7 f7 z8 x8 f8 z9 x9 f9 z10 x10 f10 z11 x11 f11
                  have HWT := Sh.mk (fun W (h : MU (fun k => k = p) w W p vn vo vk x) => with_own x.r.txn false W (HA.out.opn.chg h.ch (own_ne HA.out.opn HA.out.blk (by decide))) (by have := HA.out.lo; omega))
                  refine wp_region_noPanic ?_
                  refine wpN_begin 11 (fun W => MU (fun k => k = p) w W p vn vo vk x) (by kernel_rfl) ?_
                  have hS : (fun W => MU (fun k => k = p) w W p vn vo vk x) (World.drew _) := HU.out.drew
                  refine wpN_take (i := 0) (v := ?_) rfl rfl (by kernel_rfl) (by kernel_rfl) (by kernel_rfl) (by kernel_rfl) (fun _ _ _ h => h) (Or.inl ⟨by kernel_rfl, ?hy⟩) hS ?_
                  case hy =>
                    intro W hW
                    skip
                    go_simp
                    try with_reducible rfl
                  (try simp only [Act.put]); (try simp only [List.setIfInBounds_toArray]); (try simp only [List.set_cons_succ]); (try simp only [List.set_cons_zero])
                  refine wpN_take (i := 1) (v := ?_) rfl rfl (by kernel_rfl) (by kernel_rfl) (by kernel_rfl) (by kernel_rfl) (fun _ _ _ h => h) (Or.inl ⟨by kernel_rfl, ?hy⟩) hS ?_
                  case hy =>
                    intro W hW
                    skip
                    go_simp
                    try with_reducible rfl
                  (try simp only [Act.put]); (try simp only [List.setIfInBounds_toArray]); (try simp only [List.set_cons_succ]); (try simp only [List.set_cons_zero])
                  refine wpN_take (i := 2) (v := ?_) rfl rfl (by kernel_rfl) (by kernel_rfl) (by kernel_rfl) (by kernel_rfl) (fun _ _ _ h => h) (Or.inl ⟨by kernel_rfl, ?hy⟩) hS ?_
                  case hy =>
                    intro W hW
                    skip
                    go_simp
                    try with_reducible rfl
                  (try simp only [Act.put]); (try simp only [List.setIfInBounds_toArray]); (try simp only [List.set_cons_succ]); (try simp only [List.set_cons_zero])
                  refine wpN_take (i := 3) (v := ?_) rfl rfl (by kernel_rfl) (by kernel_rfl) (by kernel_rfl) (by kernel_rfl) (fun _ _ _ h => h) (Or.inl ⟨by kernel_rfl, ?hy⟩) hS ?_
                  case hy =>
                    intro W hW
                    skip
                    go_simp
                    try with_reducible rfl
                  (try simp only [Act.put]); (try simp only [List.setIfInBounds_toArray]); (try simp only [List.set_cons_succ]); (try simp only [List.set_cons_zero])
                  refine wpN_take (i := 4) (v := ?_) rfl rfl (by kernel_rfl) (by kernel_rfl) (by kernel_rfl) (by kernel_rfl) (fun _ _ _ h => h) (Or.inl ⟨by kernel_rfl, ?hy⟩) hS ?_
                  case hy =>
                    intro W hW
                    have y := hW.c1
                    go_simp
                    try with_reducible rfl
                  (try simp only [Act.put]); (try simp only [List.setIfInBounds_toArray]); (try simp only [List.set_cons_succ]); (try simp only [List.set_cons_zero])
                  refine wpN_take (i := 5) (v := ?_) rfl rfl (by kernel_rfl) (by kernel_rfl) (by kernel_rfl) (by kernel_rfl) (fun _ _ _ h => h) (Or.inl ⟨by kernel_rfl, ?hy⟩) hS ?_
                  case hy =>
                    intro W hW
                    skip
                    go_simp
                    try with_reducible rfl
                  (try simp only [Act.put]); (try simp only [List.setIfInBounds_toArray]); (try simp only [List.set_cons_succ]); (try simp only [List.set_cons_zero])
                  refine wpN_take (i := 6) (v := ?_) rfl rfl (by kernel_rfl) (by kernel_rfl) (by kernel_rfl) (by kernel_rfl) (fun _ _ _ h => h) (Or.inl ⟨by kernel_rfl, ?hy⟩) hS ?_
                  case hy =>
                    intro W hW
                    skip
                    go_simp
                    try with_reducible rfl
                  (try simp only [Act.put]); (try simp only [List.setIfInBounds_toArray]); (try simp only [List.set_cons_succ]); (try simp only [List.set_cons_zero])
                  refine wpN_take (i := 7) (v := ?_) rfl rfl (by kernel_rfl) (by kernel_rfl) (by kernel_rfl) (by kernel_rfl) (fun _ _ _ h => h) (Or.inl ⟨by kernel_rfl, ?hy⟩) hS ?_
                  case hy =>
                    intro W hW
                    have y := hW.x3
                    go_simp
                    try with_reducible rfl
                  (try simp only [Act.put]); (try simp only [List.setIfInBounds_toArray]); (try simp only [List.set_cons_succ]); (try simp only [List.set_cons_zero])
                  refine wpN_only (i := 8) rfl (by kernel_rfl) (fun K hK => ?_)
                  go_simp
                  go_at_call 22
                  refine (HWT.out _ hS).mono ?_
                  rintro e w' ⟨v1, rfl, ho1, hb2⟩
                  have HB2 := Sh.mk hb2
                  obtain ⟨A1, d1, hv1, -, -, -⟩ := ho1.reads (fun _ => rfl)
                  subst hv1
                  have HO1 := Sh.mk ho1
                  clear ho1
                  refine goto hK (hS.below hb2) ?_
                  clear hS hK K
                  intro hS
                  (try simp only [Act.put]); (try simp only [List.setIfInBounds_toArray]); (try simp only [List.set_cons_succ]); (try simp only [List.set_cons_zero])
                  refine wpN_only (i := 9) rfl (by kernel_rfl) (fun K hK => ?_)
                  go_simp
                  refine goto hK hS ?_
                  clear hS hK K
                  intro hS
                  (try simp only [Act.put]); (try simp only [List.setIfInBounds_toArray]); (try simp only [List.set_cons_succ]); (try simp only [List.set_cons_zero])
                  refine wpN_only (i := 10) rfl (by kernel_rfl) (fun K hK => ?_)
                  go_simp
                  refine goto hK hS ?_
                  clear hS hK K
                  intro hS
                  (try simp only [Act.put]); (try simp only [List.setIfInBounds_toArray]); (try simp only [List.set_cons_succ]); (try simp only [List.set_cons_zero])
                  refine wpN_only (i := 11) rfl (by kernel_rfl) (fun K hK => ?_)
                  have c1 := hS.c1
                  have f1 := hS.bp.frozen 1
                  go_simp
                  refine hK.out _ _ (.inl rfl) ?_
                  clear hK K
                  refine wpN_done (by kernel_rfl) ?_ _
                  refine NoPanic.normal ?_
                  refine then_gen (fun W3 => MU (fun k => k = p) w W3 p vn (.slice A1 (withF m.opn x.r.txn false).length d1) vk x ∧ Own encInt 3 1 W3 0 (.slice A1 (withF m.opn x.r.txn false).length d1) (withF m.opn x.r.txn false) ∧ ∀ k, ((.slice A1 (withF m.opn x.r.txn false).length d1) : Value).ownBlock = some k → F k ∨ w.heap.size ≤ k) ⟨hS.set1 n1 _, (HO1.out.lower (Nat.zero_le _)).chg (Chg.setCell (Chg.refl (fun k => k = p) _) (p := ⟨p, 1, none⟩) rfl _) (fun k hk e => own_ne HO1.out hS.bp (by decide) k hk e), fun k hk => .inr (by have := (HO1.out.lt k hk).1; have := HU.out.ch.size; simp at *; omega)⟩ ?_
                  clear hS HO1 HB2 HWT HU
                  rintro W3 ⟨hU, ho, hb⟩
                  have HU := Sh.mk hU
                  have HO1 := Sh.mk ho
                  have HBK := Sh.mk hb
                  have y1 := hU.x1
                  clear hU ho hb
                  obtain ⟨Ak, ck, hvk, hkc, hkm, hkr⟩ := HA.out.kept.reads (fun _ => rfl)
                  have HKR := Sh.mk hkr
                  subst hvk
                  clear hkr
                  have hlk : m.kept.length ≤ 9223372036854775807 := by have := HA.out.lk; omega
                  have hpW : p < W3.heap.size := HU.out.bp.lt
                  have hwW : w.heap.size < W3.heap.size := HU.out.bx.lt
                  have HAM := Sh.mk (show ∀ k, ((m.kept.take k).foldl (keepStep x) ([], m.now)).1.length ≤ k ∧ ((m.kept.take k).foldl (keepStep x) ([], m.now)).2.length ≤ m.now.length + k from fun k => by
                    have h := keep_len x m.now (m.kept.take k)
                    have := List.length_take_le k m.kept
                    omega)
                  go_wp2_with fail
                  go_loopw [6, 7] (fun r i wr => ∃ (k : Nat) (vn' : Value), k ≤ m.kept.length ∧ i = .int .i64 k ∧ Sh (LP F w W3 wr p vn' (.slice A1 (withF m.opn x.r.txn false).length d1) (.slice Ak m.kept.length ck) r x ((m.kept.take k).foldl (keepStep x) ([], m.now)))) (fun _ i _ => m.kept.length - (intOf i).toNat)
                  case atStart => exact ⟨0, vn, Nat.zero_le _, rfl, ⟨HU.out, Chg.refl _ _, Own.nil _ _ _ _ _, HA.out.now.chg HU.out.ch (own_ne HA.out.now HA.out.blk (by decide)), fun k hk => .inl (HA.out.fn k hk)⟩⟩
                  case round =>
                    obtain ⟨k, vn', hk, rfl, HL⟩ := hrel
                    clear y1
                    have HLN := Sh.mk (HAM.out k)
                    have y1 := HL.out.u.x1
                    have y3 := HL.out.u.x3
                    have c2 := HL.out.u.c2
                    by_cases hlt : k < m.kept.length
                    · obtain ⟨y, hy⟩ : ∃ y, y = m.kept[k] := ⟨_, rfl⟩
                      obtain ⟨b, off, hAk, hc⟩ := HKR.out k hlt
                      subst hAk
                      have HFS := Sh.mk (foldl_succ (keepStep x) ([], m.now) m.kept k hlt hy)
                      rw [← hy] at hc
                      have hbp : ¬ b = p := fun e => own_ne HA.out.kept HA.out.blk (by decide) b rfl e
                      have HC := Sh.mk (fun W (h : Chg (fun k => k = p) w W) (j : Nat) (v : Value) (hv : (encRec y)[j]? = some v) => h.cell_of (hc j v hv) hbp)
                      clear hc hy
                      generalize (m.kept.take k).foldl (keepStep x) ([], m.now) = s at HL HLN HFS
                      by_cases ht : y.txn = x.r.txn
                      · have hz : (y.txn != x.r.txn) = false := by simp [ht]
                        have HT := Sh.mk ht
                        clear ht
                        have q2 := HC.out wr HL.out.u.ch 2 _ rfl
                        go_wp2_with fail
                        go_quiet (fail)
                        refine then_gen (fun W5 => LP F w W3 W5 p vn' (.slice A1 (withF m.opn x.r.txn false).length d1) (.slice (some ⟨b, off, none⟩) m.kept.length ck) u6 x s) (HL.out.below (bl_drewN (Below.refl _ _) _)) ?_
                        clear HL y1 y3 c2 q2
                        intro W5 hL
                        have HL := Sh.mk hL
                        clear hL
                        have y1 := HL.out.u.x1
                        go_wp2_with fail
                        go_roundw
                        case rel =>
                          refine ⟨k + 1, vn', by omega, by go_num, ⟨?_⟩⟩
                          rw [HFS.out, show keepStep x s y = s by unfold keepStep; simp [HT.out, e5]]
                          exact HL.out
                        case measure => simp [intOf]; omega
                      · have hz : (y.txn != x.r.txn) = true := by simp [ht]
                        have HT := Sh.mk ht
                        clear ht
                        have q2 := HC.out wr HL.out.u.ch 2 _ rfl
                        go_wp2_with fail
                        go_quiet (fail)
                        refine then_gen (fun W5 => LP F w W3 W5 p vn' (.slice A1 (withF m.opn x.r.txn false).length d1) (.slice (some ⟨b, off, none⟩) m.kept.length ck) u6 x s) (HL.out.below (bl_drewN (Below.refl _ _) _)) ?_
                        clear HL y1 y3 c2 q2
                        intro W5 hL
                        have HL := Sh.mk hL
                        clear hL
                        have c2 := HL.out.u.c2
                        have q0 : W5.cell? ⟨b, off + k * 11, none⟩ = some (.int .i64 y.kind) := HC.out W5 HL.out.u.ch 0 _ rfl
                        have q1 : W5.cell? ⟨b, off + k * 11 + 1, none⟩ = some (.int .i64 y.gsn) := HC.out W5 HL.out.u.ch 1 _ rfl
                        have q2 : W5.cell? ⟨b, off + k * 11 + 2, none⟩ = some (.int .i64 y.txn) := HC.out W5 HL.out.u.ch 2 _ rfl
                        have q3 : W5.cell? ⟨b, off + k * 11 + 3, none⟩ = some (.int .i64 y.prev) := HC.out W5 HL.out.u.ch 3 _ rfl
                        have q4 : W5.cell? ⟨b, off + k * 11 + 4, none⟩ = some (.int .i64 y.page) := HC.out W5 HL.out.u.ch 4 _ rfl
                        have q5 : W5.cell? ⟨b, off + k * 11 + 5, none⟩ = some (.string y.key) := HC.out W5 HL.out.u.ch 5 _ rfl
                        have q6 : W5.cell? ⟨b, off + k * 11 + 6, none⟩ = some (.bool y.bef.has) := HC.out W5 HL.out.u.ch 6 _ rfl
                        have q7 : W5.cell? ⟨b, off + k * 11 + 7, none⟩ = some (.string y.bef.s) := HC.out W5 HL.out.u.ch 7 _ rfl
                        have q8 : W5.cell? ⟨b, off + k * 11 + 8, none⟩ = some (.bool y.aft.has) := HC.out W5 HL.out.u.ch 8 _ rfl
                        have q9 : W5.cell? ⟨b, off + k * 11 + 9, none⟩ = some (.string y.aft.s) := HC.out W5 HL.out.u.ch 9 _ rfl
                        have q10 : W5.cell? ⟨b, off + k * 11 + 10, none⟩ = some (.int .i64 y.undo) := HC.out W5 HL.out.u.ch 10 _ rfl
                        go_wp2_with (at_builtin; refine Sh.out ?_)
                        refine ⟨?_⟩
                        refine wpl_push E_rec rfl _ _ rfl W3.heap.size _ s.1 y W5.heap.size rfl rfl (HL.out.r.alloc _) (by exact Blk.new W5 _ _) (by have := HLN.out.1; have := HA.out.lk; omega) (by have := HLN.out.1; have := HA.out.lk; unfold maxLen; omega) (by have := HL.out.c.size; simp; omega) ?_
                        intro r6 W6 ho hch _
                        have hL6 := LP.push (HL.out.below (bl_alloc (Below.refl _ _) _)) hch ho hpW hwW
                        have HL6 := Sh.mk hL6
                        clear hL6 ho hch HL c2 q0 q1 q2 q3 q4 q5 q6 q7 q8 q9 q10
                        go_wp2_with fail
                        go_roundw
                        case rel =>
                          refine ⟨k + 1, vn', by omega, by go_num, ⟨?_⟩⟩
                          rw [HFS.out, show keepStep x s y = (s.1 ++ [y], s.2) by unfold keepStep; simp [HT.out]]
                          exact HL6.out
                        case measure => simp [intOf]; omega
                    · obtain rfl : k = m.kept.length := by omega
                      rw [List.take_length] at HL HLN
                      generalize hf : m.kept.foldl (keepStep x) ([], m.now) = s at HL HLN HMT
                      have f2 := HL.out.u.bp.frozen 2
                      have hr := HL.out.r.reads (fun _ => rfl)
                      obtain ⟨Ar, cr, hvr, -, -, -⟩ := hr
                      subst hvr
                      go_wp2_with fail
                      go_ret
                      have hlw := put_length (fun y => decide (x.r.txn ≤ y)) (fun y => y != x.r.txn) x.r.txn false m.opn
                      have hU := HL.out.u.set2 n1 (.slice Ar s.1.length cr)
                      have hcs : Chg (fun k => k = p) _ _ := (Chg.refl (fun k => k = p) wr).setCell (p := ⟨p, 2, none⟩) rfl (.slice Ar s.1.length cr)
                      have hn := HL.out.n.chg hcs (own_ne HL.out.n HL.out.u.bp (by decide))
                      have ho := (HO1.out.chg HL.out.c (own_ne HO1.out HU.out.bp (by decide))).chg hcs (own_ne (HO1.out.chg HL.out.c (own_ne HO1.out HU.out.bp (by decide))) HL.out.u.bp (by decide))
                      have hr := (HL.out.r.lower (Nat.zero_le _)).chg hcs (own_ne HL.out.r HL.out.u.bp (by decide))
                      exact ⟨rfl, MTQ.yes HA.out hU HMT.out hn HL.out.b (by have := HLN.out.2; have := HA.out.ln; have := HA.out.lk; omega) ho HBK.out (by have := HA.out.lo; unfold withF; omega) hr (fun k hk => .inr (by have := (HL.out.r.lt k hk).1; omega)) (by have := HLN.out.1; have := HA.out.lk; omega), hU.ch.mono (fun k _ h => h ▸ HA.out.fp)⟩
end Go.Proofs.Ytbjpilnlkmajpaa

