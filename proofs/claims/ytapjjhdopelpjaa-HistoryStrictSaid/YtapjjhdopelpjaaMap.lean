import Derived.Test.YtapjjhdopelpjaaK0
import Derived.Deep.AppendLies
namespace Go.Proofs.K
set_option linter.unusedVariables false
set_option linter.unusedSimpArgs false
open Go.RowKit Go.Maps Go.WideMaps

/-- A value as it stands: for maps whose elements are read by another's word. -/
def heldElem (v : Value) : Option (DataW Value × List MemPlace) := some (.held v, [])

section
variable {P : Program} {w w1 : World} {kt et : TypeId} {b n : Nat}
/-- A map from texts to texts. -/
def MapSS (P : Program) (kt et : TypeId) (w : World) (b n : Nat) (m : ByteArray → Option ByteArray) : Prop :=
  ∃ D : DataW Unit, w.ownsMap P kt (plainElem P et) b n D ∧ IsMap D ∧ ∀ k, Maps.has D (.string k.data.toList) = (m k).isSome ∧ ∀ s z, m k = some s → D.atKey (.string k.data.toList) z = .lit (.string s.data.toList)
/-- A map from numbers to values. -/
def MapIV (P : Program) (kt : TypeId) (w : World) (b n : Nat) (m : Int → Option Value) : Prop :=
  ∃ D : DataW Value, w.ownsMap P kt heldElem b n D ∧ IsMap D ∧ ∀ k, Maps.has D (.int .i64 k) = (m k).isSome ∧ ∀ v z, m k = some v → D.atKey (.int .i64 k) z = .held v

theorem MapSS.lt {m} (h : MapSS P kt et w b n m) : b < w.heap.size := by obtain ⟨D, h, _⟩ := h; exact h.lt
theorem MapIV.lt {m} (h : MapIV P kt w b n m) : b < w.heap.size := by obtain ⟨D, h, _⟩ := h; exact h.lt
theorem MapSS.chg {m} {F : Nat → Prop} (h : MapSS P kt et w b n m) (c : Chg F w w1) (hf : ¬ F b) : MapSS P kt et w1 b n m := by
  obtain ⟨D, h, r⟩ := h
  exact ⟨D, own_chg h c hf, r⟩
theorem MapIV.chg {m} {F : Nat → Prop} (h : MapIV P kt w b n m) (c : Chg F w w1) (hf : ¬ F b) : MapIV P kt w1 b n m := by
  obtain ⟨D, h, r⟩ := h
  exact ⟨D, own_chg h c hf, r⟩
theorem MapSS.below {m} (h : MapSS P kt et w b n m) (c : Below w.heap.size w w1) : MapSS P kt et w1 b n m := h.chg (Chg.of_below (F := fun _ => False) c) (fun h => h)
theorem MapIV.below {m} (h : MapIV P kt w b n m) (c : Below w.heap.size w w1) : MapIV P kt w1 b n m := h.chg (Chg.of_below (F := fun _ => False) c) (fun h => h)
theorem MapSS.mono {m} {n' : Nat} (h : MapSS P kt et w b n m) (hn : n ≤ n') : MapSS P kt et w b n' m := by
  obtain ⟨D, h, r⟩ := h
  exact ⟨D, h.mono hn, r⟩
theorem MapIV.mono {m} {n' : Nat} (h : MapIV P kt w b n m) (hn : n ≤ n') : MapIV P kt w b n' m := by
  obtain ⟨D, h, r⟩ := h
  exact ⟨D, h.mono hn, r⟩
theorem MapSS.made (P : Program) (kt et : TypeId) (w : World) : MapSS P kt et (w.alloc (.map #[] 0)) w.heap.size 0 (fun _ => none) :=
  ⟨.map [], World.ownsMap_made _ _ _ _, isMap_empty, fun k => ⟨rfl, fun s z h => by cases h⟩⟩
theorem MapIV.made (P : Program) (kt : TypeId) (w : World) : MapIV P kt (w.alloc (.map #[] 0)) w.heap.size 0 (fun _ => none) :=
  ⟨.map [], World.ownsMap_made _ _ _ _, isMap_empty, fun k => ⟨rfl, fun s z h => by cases h⟩⟩

def updS (m : ByteArray → Option ByteArray) (k : ByteArray) (v : Option ByteArray) : ByteArray → Option ByteArray := fun x => if x = k then v else m x
def updI {α : Type} (m : Int → Option α) (k : Int) (v : Option α) : Int → Option α := fun x => if x = k then v else m x

theorem strLit_ne {x k : ByteArray} (h : x ≠ k) : (Lit.string x.data.toList) ≠ (Lit.string k.data.toList) := fun e => h (by
  injection e with e
  obtain ⟨⟨x⟩⟩ := x
  obtain ⟨⟨k⟩⟩ := k
  exact congrArg _ (congrArg _ e))
theorem intLit_ne {x k : Int} (h : x ≠ k) : (Lit.int .i64 x) ≠ (Lit.int .i64 k) := fun e => h (by injection e)
theorem strLit_inj {x k : ByteArray} (e : x.data.toList = k.data.toList) : x = k := by
  obtain ⟨⟨x⟩⟩ := x
  obtain ⟨⟨k⟩⟩ := k
  exact congrArg _ (congrArg _ e)


/-- 'v, ok := m[k]' at texts. -/
theorem MapSS.look {m} {t : TypeId} (hk : P.underlying kt = some .string) (he : P.underlying et = some .string) (ht : P.underlying t = some (.map kt et)) (hz : (zeroValue et).run P w = .ok (.string ⟨#[]⟩) w)
    (h : MapSS P kt et w b n m) (k : ByteArray) (hs : k.size ≤ maxLen) :
    (Instr.lookup t (.map (some b)) (.string k) true).run P w = .ok (.tuple #[.string ((m k).getD ⟨#[]⟩), .bool (m k).isSome]) w ∧
    (Instr.lookup t (.map (some b)) (.string k) false).run P w = .ok (.string ((m k).getD ⟨#[]⟩)) w := by
  obtain ⟨D, hown, hD, hm⟩ := h
  have hzd : plainElem (H := Unit) P et (.string ⟨#[]⟩) = some (.lit (.string []), []) := plainElem_string he (by decide)
  have hkey := keyOf_string_mk hk hs
  obtain ⟨v, ps, hr, hv⟩ := hown.look_ok (string_keyed hk) ht hz hzd hkey
  obtain ⟨v', ps', hr', hv'⟩ := hown.lookup (string_keyed hk) ht hz hzd hkey
  obtain ⟨s, rfl, h1, _⟩ := plainElem_string_inv he hv
  obtain ⟨s', rfl, h1', _⟩ := plainElem_string_inv he hv'
  obtain ⟨h2, h3⟩ := hm k
  have key : ∀ s : ByteArray, D.atKey (.string k.data.toList) (.lit (.string [])) = .lit (.string s.data.toList) → s = (m k).getD ⟨#[]⟩ := by
    intro s hs
    cases hmk : m k with
    | none =>
      rw [hmk] at h2
      rw [atKey_of_not_has h2] at hs
      injection hs with hs
      injection hs with hs
      exact (strLit_inj (x := ⟨#[]⟩) hs).symm
    | some u =>
      rw [h3 u _ hmk] at hs
      injection hs with hs
      injection hs with hs
      exact (strLit_inj hs).symm
  simp only [Prod.mk.injEq] at h1 h1'
  rw [hr, hr', h2, key s h1.1, key s' h1'.1]
  exact ⟨rfl, rfl⟩
/-- 'v, ok := m[k]' at numbers. -/
theorem MapIV.look {m} {t : TypeId} {z : Value} (hk : P.underlying kt = some (.int .i64)) (ht : P.underlying t = some (.map kt et)) (hz : (zeroValue et).run P w = .ok z w)
    (h : MapIV P kt w b n m) (k : Int) (hs : (Lit.int .i64 k).wf = true) :
    (Instr.lookup t (.map (some b)) (.int .i64 k) true).run P w = .ok (.tuple #[(m k).getD z, .bool (m k).isSome]) w ∧
    (Instr.lookup t (.map (some b)) (.int .i64 k) false).run P w = .ok ((m k).getD z) w := by
  obtain ⟨D, hown, hD, hm⟩ := h
  have hzd : heldElem z = some (.held z, []) := rfl
  have hkey := keyOf_int_mk hk hs
  obtain ⟨v, ps, hr, hv⟩ := hown.look_ok (int_keyed hk) ht hz hzd hkey
  obtain ⟨v', ps', hr', hv'⟩ := hown.lookup (int_keyed hk) ht hz hzd hkey
  obtain ⟨h2, h3⟩ := hm k
  have key : ∀ s : Value, D.atKey (.int .i64 k) (.held z) = .held s → s = (m k).getD z := by
    intro s hs
    cases hmk : m k with
    | none =>
      rw [hmk] at h2
      rw [atKey_of_not_has h2] at hs
      injection hs with hs
      exact hs.symm
    | some u =>
      rw [h3 u _ hmk] at hs
      injection hs with hs
      exact hs.symm
  simp only [heldElem, Option.some.injEq, Prod.mk.injEq] at hv hv'
  rw [hr, hr', h2, key v hv.1.symm, key v' hv'.1.symm]
  exact ⟨rfl, rfl⟩
end

section
variable {P : Program} (w : World) {ops : Array Oper} {rest : List Oper} {o : Oper} {a : Act} {Q : Exit → Act → World → Prop}
theorem wpl_put_SS {kt et : TypeId} {b n : Nat} {m} (hg : o.guard = none) (x y v : Operand) (t : TypeId) (hop : o.op = Op.mapUpdate t x y v)
    (hk : P.underlying kt = some .string) (he : P.underlying et = some .string) (ht : P.underlying t = some (.map kt et)) (h : MapSS P kt et w b n m) (hn : n < maxLen) (key val : ByteArray) (hks : key.size ≤ maxLen) (hvs : val.size ≤ maxLen)
    (hx : a.eval x = .map (some b)) (hy : a.eval y = .string key) (hv : a.eval v = .string val)
    (hK : ∀ w', MapSS P kt et w' b (n + 1) (updS m key (some val)) → Chg (fun k => k = b) w w' → wpList P ops Q rest (a.put o.dst undef) w') : wpList P ops Q (o :: rest) a w := by
  obtain ⟨D, hown, hD, hm⟩ := h
  have hkey := keyOf_string_mk hk hks
  refine wpList_mapUpdate_in w hg x y v t hop kt et (string_keyed hk) ht (plainElem P et) b n D hx hown hn _ _ _ hy hv hkey _ _ (plainElem_string he hvs) fun w' hown' hturn => ?_
  refine hK w' ⟨_, hown', hD.put _ _, fun k => ?_⟩ ((Chg.of_grown hturn.grown).mono fun k _ hk => by injection hk)
  by_cases e : k = key
  · subst e
    refine ⟨by rw [has_put_same hD (k := .string _) trivial]; simp [updS], fun s z h => ?_⟩
    rw [atKey_put_same hD (k := .string _) trivial]
    have : val = s := by simpa [updS] using h
    rw [this]
  · refine ⟨by rw [has_put_other (strLit_ne e), (hm k).1]; simp [updS, e], fun s z h => ?_⟩
    rw [atKey_put_other (strLit_ne e)]
    exact (hm k).2 s z (by simpa [updS, e] using h)
theorem wpl_put_IV {kt et : TypeId} {b n : Nat} {m} (hg : o.guard = none) (x y v : Operand) (t : TypeId) (hop : o.op = Op.mapUpdate t x y v)
    (hk : P.underlying kt = some (.int .i64)) (ht : P.underlying t = some (.map kt et)) (h : MapIV P kt w b n m) (hn : n < maxLen) (key : Int) (val : Value) (hks : (Lit.int .i64 key).wf = true)
    (hx : a.eval x = .map (some b)) (hy : a.eval y = .int .i64 key) (hv : a.eval v = val)
    (hK : ∀ w', MapIV P kt w' b (n + 1) (updI m key (some val)) → Chg (fun k => k = b) w w' → wpList P ops Q rest (a.put o.dst undef) w') : wpList P ops Q (o :: rest) a w := by
  obtain ⟨D, hown, hD, hm⟩ := h
  have hkey := keyOf_int_mk hk hks
  refine wpList_mapUpdate_in w hg x y v t hop kt et (int_keyed hk) ht heldElem b n D hx hown hn _ _ _ hy hv hkey (.held val) [] rfl fun w' hown' hturn => ?_
  refine hK w' ⟨_, hown', hD.put _ _, fun k => ?_⟩ ((Chg.of_grown hturn.grown).mono fun k _ hk => by injection hk)
  by_cases e : k = key
  · subst e
    refine ⟨by rw [has_put_same hD (k := .int _ _) trivial]; simp [updI], fun s z h => ?_⟩
    rw [atKey_put_same hD (k := .int _ _) trivial]
    have : val = s := by simpa [updI] using h
    rw [this]
  · refine ⟨by rw [has_put_other (intLit_ne e), (hm k).1]; simp [updI, e], fun s z h => ?_⟩
    rw [atKey_put_other (intLit_ne e)]
    exact (hm k).2 s z (by simpa [updI, e] using h)
theorem wpl_del_SS {kt et : TypeId} {b n : Nat} {m} (hg : o.guard = none) (x y : Operand) (t : TypeId) (hop : o.op = Op.call { callee := Callee.builtin Builtin.delete, args := #[x, y], argTypes := #[t, kt] })
    (hk : P.underlying kt = some .string) (ht : P.underlying t = some (.map kt et)) (h : MapSS P kt et w b n m) (key : ByteArray) (hks : key.size ≤ maxLen)
    (hx : a.eval x = .map (some b)) (hy : a.eval y = .string key)
    (hK : ∀ w', MapSS P kt et w' b n (updS m key none) → Chg (fun k => k = b) w w' → wpList P ops Q rest (a.put o.dst (.tuple #[])) w') : wpList P ops Q (o :: rest) a w := by
  obtain ⟨D, hown, hD, hm⟩ := h
  have hkey := keyOf_string_mk hk hks
  refine wpList_delete_own w hg x y t kt hop et (string_keyed hk) ht (plainElem P et) b n D hx hown _ _ hy hkey fun w' hown' hturn => ?_
  refine hK w' ⟨_, hown', hown'.isMap, fun k => ?_⟩ ((Chg.of_grown hturn.grown).mono fun k _ hk => by injection hk)
  by_cases e : k = key
  · subst e
    exact ⟨by rw [has_del_same]; simp [updS], fun s z h => by simp [updS] at h⟩
  · refine ⟨by rw [has_del_other (strLit_ne e), (hm k).1]; simp [updS, e], fun s z h => ?_⟩
    rw [atKey_del_other (strLit_ne e)]
    exact (hm k).2 s z (by simpa [updS, e] using h)
theorem wpl_del_IV {kt et : TypeId} {b n : Nat} {m} (hg : o.guard = none) (x y : Operand) (t : TypeId) (hop : o.op = Op.call { callee := Callee.builtin Builtin.delete, args := #[x, y], argTypes := #[t, kt] })
    (hk : P.underlying kt = some (.int .i64)) (ht : P.underlying t = some (.map kt et)) (h : MapIV P kt w b n m) (key : Int) (hks : (Lit.int .i64 key).wf = true)
    (hx : a.eval x = .map (some b)) (hy : a.eval y = .int .i64 key)
    (hK : ∀ w', MapIV P kt w' b n (updI m key none) → Chg (fun k => k = b) w w' → wpList P ops Q rest (a.put o.dst (.tuple #[])) w') : wpList P ops Q (o :: rest) a w := by
  obtain ⟨D, hown, hD, hm⟩ := h
  have hkey := keyOf_int_mk hk hks
  refine wpList_delete_own w hg x y t kt hop et (int_keyed hk) ht heldElem b n D hx hown _ _ hy hkey fun w' hown' hturn => ?_
  refine hK w' ⟨_, hown', hown'.isMap, fun k => ?_⟩ ((Chg.of_grown hturn.grown).mono fun k _ hk => by injection hk)
  by_cases e : k = key
  · subst e
    exact ⟨by rw [has_del_same]; simp [updI], fun s z h => by simp [updI] at h⟩
  · refine ⟨by rw [has_del_other (intLit_ne e), (hm k).1]; simp [updI, e], fun s z h => ?_⟩
    rw [atKey_del_other (intLit_ne e)]
    exact (hm k).2 s z (by simpa [updI, e] using h)
end
/-- 'm[k] = v': the run, for a region that draws. -/
theorem MapIV.put_run {P : Program} {w : World} {kt et : TypeId} {b n : Nat} {m} {t : TypeId} (hk : P.underlying kt = some (.int .i64)) (ht : P.underlying t = some (.map kt et)) (h : MapIV P kt w b n m) (hn : n < maxLen) (key : Int) (val : Value) (hks : (Lit.int .i64 key).wf = true) :
    ∃ w', (Instr.mapUpdate t (.map (some b)) (.int .i64 key) val).run P w = .ok () w' ∧ MapIV P kt w' b (n + 1) (updI m key (some val)) ∧ Chg (fun k => k = b) w w' := by
  obtain ⟨D, hown, hD, hm⟩ := h
  have hkey := keyOf_int_mk hk hks
  obtain ⟨w', hrun, hown', hturn⟩ := hown.store (int_keyed hk) ht hn hkey (val := val) (d := .held val) (ps := []) rfl
  refine ⟨w', hrun, ⟨_, hown', hD.put _ _, fun k => ?_⟩, (Chg.of_grown hturn.grown).mono fun k _ hk => by injection hk⟩
  by_cases e : k = key
  · subst e
    refine ⟨by rw [has_put_same hD (k := .int _ _) trivial]; simp [updI], fun s z h => ?_⟩
    rw [atKey_put_same hD (k := .int _ _) trivial]
    have : val = s := by simpa [updI] using h
    rw [this]
  · refine ⟨by rw [has_put_other (intLit_ne e), (hm k).1]; simp [updI, e], fun s z h => ?_⟩
    rw [atKey_put_other (intLit_ne e)]
    exact (hm k).2 s z (by simpa [updI, e] using h)
end Go.Proofs.K
