import Derived.Test.YtapjjhdopelpjaaSb
import Derived.Shelf.Abstract
namespace Go.Proofs.Ytapjjhdopelpjaa
set_option linter.unusedVariables false
set_option linter.unusedSimpArgs false
open Go.RowKit Go.Maps Go.Proofs.K

def idxF {α : Type} (p : α → Bool) (l : List α) : Int := match l.findIdx? p with | some i => (i : Int) | none => -1
theorem idxF_hit {α : Type} {p : α → Bool} {l : List α} {k : Nat} (h : ∀ j (hj : j < l.length), j < k → p l[j] = false) (hk : k < l.length) (hp : p l[k] = true) : idxF p l = (k : Int) := by
  unfold idxF
  have : l.findIdx? p = some k := by
    rw [List.findIdx?_eq_some_iff_getElem]
    exact ⟨hk, hp, fun j hj => by simpa using h j (by omega) hj⟩
  rw [this]
theorem idxF_none {α : Type} {p : α → Bool} {l : List α} (h : ∀ j (hj : j < l.length), p l[j] = false) : idxF p l = -1 := by
  unfold idxF
  have : l.findIdx? p = none := by
    rw [List.findIdx?_eq_none_iff]
    intro x hx
    obtain ⟨j, hj, rfl⟩ := List.mem_iff_getElem.1 hx
    exact h j hj
  rw [this]
theorem idxF_any {α : Type} (p : α → Bool) (l : List α) : decide (0 ≤ idxF p l) = l.any p := by
  unfold idxF
  cases h : l.findIdx? p with
  | none =>
    rw [List.findIdx?_eq_none_iff] at h
    have : l.any p = false := by rw [List.any_eq_false]; intro x hx; simp [h x hx]
    simp [this]
  | some i =>
    rw [List.findIdx?_eq_some_iff_getElem] at h
    obtain ⟨hk, hp, _⟩ := h
    have : l.any p = true := List.any_eq_true.2 ⟨_, List.getElem_mem hk, hp⟩
    rw [this]
    exact decide_eq_true (by show (0 : Int) ≤ (i : Int); omega)
theorem any_not_all {α : Type} (p : α → Bool) (l : List α) : (!l.any fun x => !p x) = l.all p := by
  induction l with
  | nil => rfl
  | cons x r ih => simp [← ih]

theorem ext_false {α : Type} {p : α → Bool} {l : List α} {k : Nat} (h : ∀ j (hj : j < l.length), j < k → p l[j] = false) (hk : k < l.length) (e : p l[k] = false) : ∀ j (hj : j < l.length), j < k + 1 → p l[j] = false := fun j hj hjk => by
  rcases Nat.lt_succ_iff_lt_or_eq.1 hjk with h1 | rfl
  · exact h j hj h1
  · exact e

/-- A predicate that is handed over: in whatever world that has come of w0 by growth alone. -/
def PredB {α : Type} (P : Program) (g : FuncId) (lb : Array Value) (enc : α → Value) (p : α → Bool) (w0 : World) : Prop :=
  ∀ W x, Below w0.heap.size w0 W → Calls P g (#[enc x] ++ lb) W fun e w' => e = .returned (.bool (p x)) ∧ Below W.heap.size W w'

structure PR where
  a : Int
  b : Int
deriving DecidableEq
def encP (x : PR) : List Value := [.int .i64 x.a, .int .i64 x.b]
def aggP (x : PR) : Value := .agg #[.int .i64 x.a, .int .i64 x.b]
theorem E_from : Elem Try.prog encP 29 47 2 16 where
  len _ := rfl
  one x u hu := by simp [encP] at hu; rcases hu with rfl | rfl <;> rfl
  ht := Try.underlying29
  info := by
    have i0 : (Try.prog.info? 47).map (fun i => (i.zero, i.size, i.bytes)) = some (some (.agg #[.int .i64 0, .int .i64 0]), 2, 16) := by kernel_rfl
    obtain ⟨i, h1, h2, h3, h4⟩ := info_parts i0
    exact ⟨i, _, h1, h2, h3, h4, rfl⟩
  pos := by omega
theorem E_edge : Elem Try.prog encP 27 43 2 16 where
  len _ := rfl
  one x u hu := by simp [encP] at hu; rcases hu with rfl | rfl <;> rfl
  ht := Try.underlying27
  info := by
    have i0 : (Try.prog.info? 43).map (fun i => (i.zero, i.size, i.bytes)) = some (some (.agg #[.int .i64 0, .int .i64 0]), 2, 16) := by kernel_rfl
    obtain ⟨i, h1, h2, h3, h4⟩ := info_parts i0
    exact ⟨i, _, h1, h2, h3, h4, rfl⟩
  pos := by omega
theorem E_rfrom : Elem Try.prog encP 38 46 2 16 where
  len _ := rfl
  one x u hu := by simp [encP] at hu; rcases hu with rfl | rfl <;> rfl
  ht := Try.underlying38
  info := by
    have i0 : (Try.prog.info? 46).map (fun i => (i.zero, i.size, i.bytes)) = some (some (.agg #[.int .i64 0, .int .i64 0]), 2, 16) := by kernel_rfl
    obtain ⟨i, h1, h2, h3, h4⟩ := info_parts i0
    exact ⟨i, _, h1, h2, h3, h4, rfl⟩
  pos := by omega
theorem E_redge : Elem Try.prog encP 36 44 2 16 where
  len _ := rfl
  one x u hu := by simp [encP] at hu; rcases hu with rfl | rfl <;> rfl
  ht := Try.underlying36
  info := by
    have i0 : (Try.prog.info? 44).map (fun i => (i.zero, i.size, i.bytes)) = some (some (.agg #[.int .i64 0, .int .i64 0]), 2, 16) := by kernel_rfl
    obtain ⟨i, h1, h2, h3, h4⟩ := info_parts i0
    exact ⟨i, _, h1, h2, h3, h4, rfl⟩
  pos := by omega

set_option maxHeartbeats 2000000 in
set_option maxRecDepth 100000 in
theorem index_int_calls (g : Nat) (lb : Array Value) (eg : ∀ args w, (callFunc g args).run Try.prog w = .ok (.enter g args) w) (p : Int → Bool) (A : Option Addr) (c : Nat) (l : List Int) (w : World) (hr : RowOf encInt 1 w A l) (hm : l.length ≤ 9223372036854775807)
    (hp : PredB Try.prog g lb (Value.int .i64) p w) :
    Calls Try.prog 51 #[.slice A l.length c, .func (.func g) #[] lb] w fun e w' => e = .returned (.int .i64 (idxF p l)) ∧ Below w.heap.size w w' := by
  have HR := Sh.mk hr
  have HP := Sh.mk hp
  clear hr hp
  go_enter Try.func51, Try.ntmps51
  go_wp2
  go_loopw [8] (fun i wr => ∃ k : Nat, k ≤ l.length ∧ i = .int .i64 k ∧ Sh (∀ j (hj : j < l.length), j < k → p l[j] = false) ∧ Sh (Below w.heap.size w wr)) (fun i _ => l.length - (intOf i).toNat)
  case atStart => exact ⟨0, Nat.zero_le _, rfl, ⟨fun _ _ h => by omega⟩, ⟨Below.refl _ _⟩⟩
  case round =>
    obtain ⟨k, hk, rfl, HN, HB⟩ := hrel
    by_cases hlt : k < l.length
    · obtain ⟨b, off, rfl, hc⟩ := HR.out k hlt
      have HC := Sh.mk (fun j v hv => below_cell HB.out (hc j v hv))
      clear hc
      have hpk := HP.out wr l[k] HB.out
      obtain ⟨x, hx⟩ : ∃ x, x = l[k] := ⟨_, rfl⟩
      rw [← hx] at hpk HC
      have HX := Sh.mk hx
      clear hx
      have hc0 : wr.cell? ⟨b, off + k, none⟩ = some (.int .i64 x) := by simpa using HC.out 0 _ rfl
      replace hpk : Calls Try.prog g (#[.int .i64 x] ++ lb) wr (fun e w' => e = .returned (.bool (p x)) ∧ Below wr.heap.size wr w') := hpk
      obtain ⟨q, hq⟩ : ∃ q, q = p x := ⟨_, rfl⟩
      rw [← hq] at hpk
      have HQ := Sh.mk (hq.trans (congrArg p HX.out))
      clear hq
      cases q
      · go_wp2_with (refine hpk.mono ?_; rintro e w1 ⟨rfl, hb1⟩)
        go_roundw
        case rel => exact ⟨k + 1, by omega, by go_num, ⟨ext_false HN.out hlt HQ.out.symm⟩, ⟨below_trans HB.out hb1⟩⟩
        case measure => simp [intOf]; omega
      · go_wp2_with (refine hpk.mono ?_; rintro e w1 ⟨rfl, hb1⟩)
        go_ret
        exact ⟨by rw [idxF_hit HN.out hlt HQ.out.symm]; rfl, below_trans HB.out hb1⟩
    · go_wp2
      go_ret
      exact ⟨by rw [idxF_none (fun j hj => HN.out j hj (by omega))]; rfl, HB.out⟩

set_option maxHeartbeats 1000000 in
set_option maxRecDepth 100000 in
theorem contains_int_calls (g : Nat) (lb : Array Value) (eg : ∀ args w, (callFunc g args).run Try.prog w = .ok (.enter g args) w) (p : Int → Bool) (A : Option Addr) (c : Nat) (l : List Int) (w : World) (hr : RowOf encInt 1 w A l) (hm : l.length ≤ 9223372036854775807)
    (hp : PredB Try.prog g lb (Value.int .i64) p w) :
    Calls Try.prog 58 #[.slice A l.length c, .func (.func g) #[] lb] w fun e w' => e = .returned (.bool (l.any p)) ∧ Below w.heap.size w w' := by
  have H := index_int_calls g lb eg p A c l w hr hm hp
  rw [← idxF_any p l]
  generalize idxF p l = r at H
  clear hr hp
  go_enter Try.func58, Try.ntmps58
  go_wp2_with (go_at_call 51; refine H.mono ?_; rintro e w' ⟨rfl, hb⟩)
  go_ret
  exact ⟨rfl, hb⟩

set_option maxHeartbeats 2000000 in
set_option maxRecDepth 100000 in
theorem index_from_calls (g : Nat) (lb : Array Value) (eg : ∀ args w, (callFunc g args).run Try.prog w = .ok (.enter g args) w) (p : PR → Bool) (A : Option Addr) (c : Nat) (l : List PR) (w : World) (hr : RowOf encP 2 w A l) (hm : l.length ≤ 9223372036854775807)
    (hp : PredB Try.prog g lb aggP p w) :
    Calls Try.prog 56 #[.slice A l.length c, .func (.func g) #[] lb] w fun e w' => e = .returned (.int .i64 (idxF p l)) ∧ Below w.heap.size w w' := by
  have HR := Sh.mk hr
  have HP := Sh.mk hp
  clear hr hp
  go_enter Try.func56, Try.ntmps56
  go_wp2
  go_loopw [8] (fun i wr => ∃ k : Nat, k ≤ l.length ∧ i = .int .i64 k ∧ Sh (∀ j (hj : j < l.length), j < k → p l[j] = false) ∧ Sh (Below w.heap.size w wr)) (fun i _ => l.length - (intOf i).toNat)
  case atStart => exact ⟨0, Nat.zero_le _, rfl, ⟨fun _ _ h => by omega⟩, ⟨Below.refl _ _⟩⟩
  case round =>
    obtain ⟨k, hk, rfl, HN, HB⟩ := hrel
    by_cases hlt : k < l.length
    · obtain ⟨b, off, rfl, hc⟩ := HR.out k hlt
      have HC := Sh.mk (fun j v hv => below_cell HB.out (hc j v hv))
      clear hc
      have hpk := HP.out wr l[k] HB.out
      obtain ⟨x, hx⟩ : ∃ x, x = l[k] := ⟨_, rfl⟩
      rw [← hx] at hpk HC
      have HX := Sh.mk hx
      clear hx
      have hc0 : wr.cell? ⟨b, off + k * 2, none⟩ = some (.int .i64 x.a) := by simpa using HC.out 0 _ rfl
      have hc1 : wr.cell? ⟨b, off + k * 2 + 1, none⟩ = some (.int .i64 x.b) := by simpa using HC.out 1 _ rfl
      replace hpk : Calls Try.prog g (#[.agg #[.int .i64 x.a, .int .i64 x.b]] ++ lb) wr (fun e w' => e = .returned (.bool (p x)) ∧ Below wr.heap.size wr w') := hpk
      obtain ⟨q, hq⟩ : ∃ q, q = p x := ⟨_, rfl⟩
      rw [← hq] at hpk
      have HQ := Sh.mk (hq.trans (congrArg p HX.out))
      clear hq
      cases q
      · go_wp2_with (refine hpk.mono ?_; rintro e w1 ⟨rfl, hb1⟩)
        go_roundw
        case rel => exact ⟨k + 1, by omega, by go_num, ⟨ext_false HN.out hlt HQ.out.symm⟩, ⟨below_trans HB.out hb1⟩⟩
        case measure => simp [intOf]; omega
      · go_wp2_with (refine hpk.mono ?_; rintro e w1 ⟨rfl, hb1⟩)
        go_ret
        exact ⟨by rw [idxF_hit HN.out hlt HQ.out.symm]; rfl, below_trans HB.out hb1⟩
    · go_wp2
      go_ret
      exact ⟨by rw [idxF_none (fun j hj => HN.out j hj (by omega))]; rfl, HB.out⟩

set_option maxHeartbeats 1000000 in
set_option maxRecDepth 100000 in
theorem contains_from_calls (g : Nat) (lb : Array Value) (eg : ∀ args w, (callFunc g args).run Try.prog w = .ok (.enter g args) w) (p : PR → Bool) (A : Option Addr) (c : Nat) (l : List PR) (w : World) (hr : RowOf encP 2 w A l) (hm : l.length ≤ 9223372036854775807)
    (hp : PredB Try.prog g lb aggP p w) :
    Calls Try.prog 38 #[.slice A l.length c, .func (.func g) #[] lb] w fun e w' => e = .returned (.bool (l.any p)) ∧ Below w.heap.size w w' := by
  have H := index_from_calls g lb eg p A c l w hr hm hp
  rw [← idxF_any p l]
  generalize idxF p l = r at H
  clear hr hp
  go_enter Try.func38, Try.ntmps38
  go_wp2_with (go_at_call 56; refine H.mono ?_; rintro e w' ⟨rfl, hb⟩)
  go_ret
  exact ⟨rfl, hb⟩

set_option maxHeartbeats 2000000 in
set_option maxRecDepth 100000 in
theorem index_edge_calls (g : Nat) (lb : Array Value) (eg : ∀ args w, (callFunc g args).run Try.prog w = .ok (.enter g args) w) (p : PR → Bool) (A : Option Addr) (c : Nat) (l : List PR) (w : World) (hr : RowOf encP 2 w A l) (hm : l.length ≤ 9223372036854775807)
    (hp : PredB Try.prog g lb aggP p w) :
    Calls Try.prog 53 #[.slice A l.length c, .func (.func g) #[] lb] w fun e w' => e = .returned (.int .i64 (idxF p l)) ∧ Below w.heap.size w w' := by
  have HR := Sh.mk hr
  have HP := Sh.mk hp
  clear hr hp
  go_enter Try.func53, Try.ntmps53
  go_wp2
  go_loopw [8] (fun i wr => ∃ k : Nat, k ≤ l.length ∧ i = .int .i64 k ∧ Sh (∀ j (hj : j < l.length), j < k → p l[j] = false) ∧ Sh (Below w.heap.size w wr)) (fun i _ => l.length - (intOf i).toNat)
  case atStart => exact ⟨0, Nat.zero_le _, rfl, ⟨fun _ _ h => by omega⟩, ⟨Below.refl _ _⟩⟩
  case round =>
    obtain ⟨k, hk, rfl, HN, HB⟩ := hrel
    by_cases hlt : k < l.length
    · obtain ⟨b, off, rfl, hc⟩ := HR.out k hlt
      have HC := Sh.mk (fun j v hv => below_cell HB.out (hc j v hv))
      clear hc
      have hpk := HP.out wr l[k] HB.out
      obtain ⟨x, hx⟩ : ∃ x, x = l[k] := ⟨_, rfl⟩
      rw [← hx] at hpk HC
      have HX := Sh.mk hx
      clear hx
      have hc0 : wr.cell? ⟨b, off + k * 2, none⟩ = some (.int .i64 x.a) := by simpa using HC.out 0 _ rfl
      have hc1 : wr.cell? ⟨b, off + k * 2 + 1, none⟩ = some (.int .i64 x.b) := by simpa using HC.out 1 _ rfl
      replace hpk : Calls Try.prog g (#[.agg #[.int .i64 x.a, .int .i64 x.b]] ++ lb) wr (fun e w' => e = .returned (.bool (p x)) ∧ Below wr.heap.size wr w') := hpk
      obtain ⟨q, hq⟩ : ∃ q, q = p x := ⟨_, rfl⟩
      rw [← hq] at hpk
      have HQ := Sh.mk (hq.trans (congrArg p HX.out))
      clear hq
      cases q
      · go_wp2_with (refine hpk.mono ?_; rintro e w1 ⟨rfl, hb1⟩)
        go_roundw
        case rel => exact ⟨k + 1, by omega, by go_num, ⟨ext_false HN.out hlt HQ.out.symm⟩, ⟨below_trans HB.out hb1⟩⟩
        case measure => simp [intOf]; omega
      · go_wp2_with (refine hpk.mono ?_; rintro e w1 ⟨rfl, hb1⟩)
        go_ret
        exact ⟨by rw [idxF_hit HN.out hlt HQ.out.symm]; rfl, below_trans HB.out hb1⟩
    · go_wp2
      go_ret
      exact ⟨by rw [idxF_none (fun j hj => HN.out j hj (by omega))]; rfl, HB.out⟩

set_option maxHeartbeats 1000000 in
set_option maxRecDepth 100000 in
theorem contains_edge_calls (g : Nat) (lb : Array Value) (eg : ∀ args w, (callFunc g args).run Try.prog w = .ok (.enter g args) w) (p : PR → Bool) (A : Option Addr) (c : Nat) (l : List PR) (w : World) (hr : RowOf encP 2 w A l) (hm : l.length ≤ 9223372036854775807)
    (hp : PredB Try.prog g lb aggP p w) :
    Calls Try.prog 33 #[.slice A l.length c, .func (.func g) #[] lb] w fun e w' => e = .returned (.bool (l.any p)) ∧ Below w.heap.size w w' := by
  have H := index_edge_calls g lb eg p A c l w hr hm hp
  rw [← idxF_any p l]
  generalize idxF p l = r at H
  clear hr hp
  go_enter Try.func33, Try.ntmps33
  go_wp2_with (go_at_call 53; refine H.mono ?_; rintro e w' ⟨rfl, hb⟩)
  go_ret
  exact ⟨rfl, hb⟩
end Go.Proofs.Ytapjjhdopelpjaa
