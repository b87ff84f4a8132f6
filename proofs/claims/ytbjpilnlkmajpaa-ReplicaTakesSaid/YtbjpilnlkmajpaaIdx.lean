import Derived.Test.YtbjpilnlkmajpaaK0
import Derived.Shelf.Abstract
namespace Go.Proofs.Ytbjpilnlkmajpaa
set_option linter.unusedVariables false
set_option linter.unusedSimpArgs false
open Go.RowKit Go.Maps Go.Proofs.K

def idxF {α : Type} (p : α → Bool) (l : List α) : Int := match l.findIdx? p with | some i => (i : Int) | none => -1
theorem idxF_hit {α : Type} {p : α → Bool} {l : List α} {k : Nat} (h : ∀ j (hj : j < l.length), j < k → p l[j] = false) (hk : k < l.length) (hp : p l[k] = true) : idxF p l = (k : Int) := by
  unfold idxF
  have : l.findIdx? p = some k := by
    rw [List.findIdx?_eq_some_iff_getElem]
    exact ⟨hk, hp, fun j hj => by simpa using h j (by omega) hj⟩
  rw [this]
theorem idxF_none {α : Type} {p : α → Bool} {l : List α} (h : ∀ j (hj : j < l.length), p l[j] = false) : idxF p l = -1 := by
  unfold idxF
  have : l.findIdx? p = none := by
    rw [List.findIdx?_eq_none_iff]
    intro x hx
    obtain ⟨j, hj, rfl⟩ := List.mem_iff_getElem.1 hx
    exact h j hj
  rw [this]
theorem idxF_any {α : Type} (p : α → Bool) (l : List α) : decide (0 ≤ idxF p l) = l.any p := by
  unfold idxF
  cases h : l.findIdx? p with
  | none =>
    rw [List.findIdx?_eq_none_iff] at h
    have : l.any p = false := by rw [List.any_eq_false]; intro x hx; simp [h x hx]
    simp [this]
  | some i =>
    rw [List.findIdx?_eq_some_iff_getElem] at h
    obtain ⟨hk, hp, _⟩ := h
    have : l.any p = true := List.any_eq_true.2 ⟨_, List.getElem_mem hk, hp⟩
    rw [this]
    exact decide_eq_true (by show (0 : Int) ≤ (i : Int); omega)
theorem any_not_all {α : Type} (p : α → Bool) (l : List α) : (!l.any fun x => !p x) = l.all p := by
  induction l with
  | nil => rfl
  | cons x r ih => simp [← ih]

theorem ext_false {α : Type} {p : α → Bool} {l : List α} {k : Nat} (h : ∀ j (hj : j < l.length), j < k → p l[j] = false) (hk : k < l.length) (e : p l[k] = false) : ∀ j (hj : j < l.length), j < k + 1 → p l[j] = false := fun j hj hjk => by
  rcases Nat.lt_succ_iff_lt_or_eq.1 hjk with h1 | rfl
  · exact h j hj h1
  · exact e

/-- A predicate that is handed over: in whatever world that has come of w0 by growth alone. -/
def PredB {α : Type} (P : Program) (g : FuncId) (lb : Array Value) (enc : α → Value) (p : α → Bool) (w0 : World) : Prop :=
  ∀ W x, Below w0.heap.size w0 W → Calls P g (#[enc x] ++ lb) W fun e w' => e = .returned (.bool (p x)) ∧ Below W.heap.size W w'

def encStr (s : ByteArray) : List Value := [.string s]
structure VL where
  has : Bool
  s : ByteArray
deriving DecidableEq
def encVal (v : VL) : List Value := [.bool v.has, .string v.s]
structure RC where
  kind : Int
  gsn : Int
  txn : Int
  prev : Int
  page : Int
  key : ByteArray
  bef : VL
  aft : VL
  undo : Int
def encRec (r : RC) : List Value := [.int .i64 r.kind, .int .i64 r.gsn, .int .i64 r.txn, .int .i64 r.prev, .int .i64 r.page, .string r.key, .bool r.bef.has, .string r.bef.s, .bool r.aft.has, .string r.aft.s, .int .i64 r.undo]
def aggVal (v : VL) : Value := .agg #[.bool v.has, .string v.s]
def aggRec (r : RC) : Value := .agg #[.int .i64 r.kind, .int .i64 r.gsn, .int .i64 r.txn, .int .i64 r.prev, .int .i64 r.page, .string r.key, .bool r.bef.has, .string r.bef.s, .bool r.aft.has, .string r.aft.s, .int .i64 r.undo]

set_option maxHeartbeats 2000000 in
set_option maxRecDepth 100000 in
theorem index_str_calls (g : Nat) (lb : Array Value) (eg : ∀ args w, (callFunc g args).run Try.prog w = .ok (.enter g args) w) (p : ByteArray → Bool) (A : Option Addr) (c : Nat) (l : List ByteArray) (w : World) (hr : RowOf encStr 1 w A l) (hm : l.length ≤ 9223372036854775807)
    (hp : PredB Try.prog g lb Value.string p w) :
    Calls Try.prog 99 #[.slice A l.length c, .func (.func g) #[] lb] w fun e w' => e = .returned (.int .i64 (idxF p l)) ∧ Below w.heap.size w w' := by
  have HR := Sh.mk hr
  have HP := Sh.mk hp
  clear hr hp
  go_enter Try.func99, Try.ntmps99
  go_wp2
  go_loopw [8] (fun i wr => ∃ k : Nat, k ≤ l.length ∧ i = .int .i64 k ∧ Sh (∀ j (hj : j < l.length), j < k → p l[j] = false) ∧ Sh (Below w.heap.size w wr)) (fun i _ => l.length - (intOf i).toNat)
  case atStart => exact ⟨0, Nat.zero_le _, rfl, ⟨fun _ _ h => by omega⟩, ⟨Below.refl _ _⟩⟩
  case round =>
    obtain ⟨k, hk, rfl, HN, HB⟩ := hrel
    by_cases hlt : k < l.length
    · obtain ⟨b, off, rfl, hc⟩ := HR.out k hlt
      have HC := Sh.mk (fun j v hv => below_cell HB.out (hc j v hv))
      clear hc
      have hpk := HP.out wr l[k] HB.out
      obtain ⟨x, hx⟩ : ∃ x, x = l[k] := ⟨_, rfl⟩
      rw [← hx] at hpk HC
      have HX := Sh.mk hx
      clear hx
      have hc0 : wr.cell? ⟨b, off + k, none⟩ = some (.string x) := by simpa using HC.out 0 _ rfl
      obtain ⟨q, hq⟩ : ∃ q, q = p x := ⟨_, rfl⟩
      rw [← hq] at hpk
      have HQ := Sh.mk (hq.trans (congrArg p HX.out))
      clear hq
      cases q
      · go_wp2_with (refine hpk.mono ?_; rintro e w1 ⟨rfl, hb1⟩)
        go_roundw
        case rel => exact ⟨k + 1, by omega, by go_num, ⟨ext_false HN.out hlt HQ.out.symm⟩, ⟨below_trans HB.out hb1⟩⟩
        case measure => simp [intOf]; omega
      · go_wp2_with (refine hpk.mono ?_; rintro e w1 ⟨rfl, hb1⟩)
        go_ret
        exact ⟨by rw [idxF_hit HN.out hlt HQ.out.symm]; rfl, below_trans HB.out hb1⟩
    · go_wp2
      go_ret
      exact ⟨by rw [idxF_none (fun j hj => HN.out j hj (by omega))]; rfl, HB.out⟩

set_option maxHeartbeats 1000000 in
set_option maxRecDepth 100000 in
theorem contains_str_calls (g : Nat) (lb : Array Value) (eg : ∀ args w, (callFunc g args).run Try.prog w = .ok (.enter g args) w) (p : ByteArray → Bool) (A : Option Addr) (c : Nat) (l : List ByteArray) (w : World) (hr : RowOf encStr 1 w A l) (hm : l.length ≤ 9223372036854775807)
    (hp : PredB Try.prog g lb Value.string p w) :
    Calls Try.prog 95 #[.slice A l.length c, .func (.func g) #[] lb] w fun e w' => e = .returned (.bool (l.any p)) ∧ Below w.heap.size w w' := by
  have H := index_str_calls g lb eg p A c l w hr hm hp
  rw [← idxF_any p l]
  generalize idxF p l = r at H
  clear hr hp
  go_enter Try.func95, Try.ntmps95
  go_wp2_with (go_at_call 99; refine H.mono ?_; rintro e w' ⟨rfl, hb⟩)
  go_ret
  exact ⟨rfl, hb⟩

set_option maxHeartbeats 1000000 in
set_option maxRecDepth 100000 in
theorem all1_str (g : Nat) (lb : Array Value) (eg : ∀ args w, (callFunc g args).run Try.prog w = .ok (.enter g args) w) (p : ByteArray → Bool) (B : Nat) (w : World) (hc : w.cell? ⟨B, 0, none⟩ = some (.func (.func g) #[] lb))
    (hp : PredB Try.prog g lb Value.string p w) : PredB Try.prog 96 #[.pointer (some ⟨B, 0, none⟩)] Value.string (fun x => !p x) w := fun W x hb => by
  have hc1 := below_cell hb hc
  have hpk : Calls Try.prog g (#[.string x] ++ lb) W (fun e w' => e = .returned (.bool (p x)) ∧ Below W.heap.size W w') := hp W x hb
  clear hp
  show Calls Try.prog 96 #[.string x, .pointer (some ⟨B, 0, none⟩)] W fun e w' => e = .returned (.bool (!p x)) ∧ Below W.heap.size W w'
  generalize p x = q at hpk ⊢
  go_enter Try.func96, Try.ntmps96
  go_wp2_with (refine hpk.mono ?_; rintro e w1 ⟨rfl, hb1⟩)
  go_ret
  exact ⟨rfl, hb1⟩

set_option maxHeartbeats 1000000 in
set_option maxRecDepth 100000 in
theorem all_str_calls (g : Nat) (lb : Array Value) (eg : ∀ args w, (callFunc g args).run Try.prog w = .ok (.enter g args) w) (p : ByteArray → Bool) (A : Option Addr) (c : Nat) (l : List ByteArray) (w : World) (hr : RowOf encStr 1 w A l) (hm : l.length ≤ 9223372036854775807)
    (hp : PredB Try.prog g lb Value.string p w) :
    Calls Try.prog 90 #[.slice A l.length c, .func (.func g) #[] lb] w fun e w' => e = .returned (.bool (l.all p)) ∧ Below w.heap.size w w' := by
  have eg1 : ∀ args w, (callFunc 96 args).run Try.prog w = .ok (.enter 96 args) w := Go.Proofs.enters_of Try.func96 (by kernel_rfl) rfl
  have hb0 : Below w.heap.size w (w.alloc (.cells #[.func (.func g) #[] lb] 83)) := (Below.refl _ _).alloc (Nat.le_refl _) _
  have H := contains_str_calls 96 #[.pointer (some ⟨w.heap.size, 0, none⟩)] eg1 (fun x => !p x) A c l (w.alloc (.cells #[.func (.func g) #[] lb] 83)) (hr.below hb0) hm
    (all1_str g lb eg p w.heap.size _ (by simp) (fun W x hb => hp W x (below_trans hb0 hb)))
  rw [← any_not_all p l]
  generalize (l.any fun x => !p x) = r at H
  clear hr hp
  go_enter Try.func90, Try.ntmps90
  go_wp2_with (go_at_call 95; refine H.mono ?_; rintro e w' ⟨rfl, hb⟩)
  go_ret
  exact ⟨rfl, below_trans hb0 hb⟩

set_option maxHeartbeats 2000000 in
set_option maxRecDepth 100000 in
theorem index_val_calls (g : Nat) (lb : Array Value) (eg : ∀ args w, (callFunc g args).run Try.prog w = .ok (.enter g args) w) (p : VL → Bool) (A : Option Addr) (c : Nat) (l : List VL) (w : World) (hr : RowOf encVal 2 w A l) (hm : l.length ≤ 9223372036854775807)
    (hp : PredB Try.prog g lb aggVal p w) :
    Calls Try.prog 100 #[.slice A l.length c, .func (.func g) #[] lb] w fun e w' => e = .returned (.int .i64 (idxF p l)) ∧ Below w.heap.size w w' := by
  have HR := Sh.mk hr
  have HP := Sh.mk hp
  clear hr hp
  go_enter Try.func100, Try.ntmps100
  go_wp2
  go_loopw [8] (fun i wr => ∃ k : Nat, k ≤ l.length ∧ i = .int .i64 k ∧ Sh (∀ j (hj : j < l.length), j < k → p l[j] = false) ∧ Sh (Below w.heap.size w wr)) (fun i _ => l.length - (intOf i).toNat)
  case atStart => exact ⟨0, Nat.zero_le _, rfl, ⟨fun _ _ h => by omega⟩, ⟨Below.refl _ _⟩⟩
  case round =>
    obtain ⟨k, hk, rfl, HN, HB⟩ := hrel
    by_cases hlt : k < l.length
    · obtain ⟨b, off, rfl, hc⟩ := HR.out k hlt
      have HC := Sh.mk (fun j v hv => below_cell HB.out (hc j v hv))
      clear hc
      have hpk := HP.out wr l[k] HB.out
      obtain ⟨x, hx⟩ : ∃ x, x = l[k] := ⟨_, rfl⟩
      rw [← hx] at hpk HC
      have HX := Sh.mk hx
      clear hx
      have hc0 : wr.cell? ⟨b, off + k * 2, none⟩ = some (.bool x.has) := by simpa using HC.out 0 _ rfl
      have hc1 : wr.cell? ⟨b, off + k * 2 + 1, none⟩ = some (.string x.s) := by simpa using HC.out 1 _ rfl
      replace hpk : Calls Try.prog g (#[.agg #[.bool x.has, .string x.s]] ++ lb) wr (fun e w' => e = .returned (.bool (p x)) ∧ Below wr.heap.size wr w') := hpk
      obtain ⟨q, hq⟩ : ∃ q, q = p x := ⟨_, rfl⟩
      rw [← hq] at hpk
      have HQ := Sh.mk (hq.trans (congrArg p HX.out))
      clear hq
      cases q
      · go_wp2_with (refine hpk.mono ?_; rintro e w1 ⟨rfl, hb1⟩)
        go_roundw
        case rel => exact ⟨k + 1, by omega, by go_num, ⟨ext_false HN.out hlt HQ.out.symm⟩, ⟨below_trans HB.out hb1⟩⟩
        case measure => simp [intOf]; omega
      · go_wp2_with (refine hpk.mono ?_; rintro e w1 ⟨rfl, hb1⟩)
        go_ret
        exact ⟨by rw [idxF_hit HN.out hlt HQ.out.symm]; rfl, below_trans HB.out hb1⟩
    · go_wp2
      go_ret
      exact ⟨by rw [idxF_none (fun j hj => HN.out j hj (by omega))]; rfl, HB.out⟩

set_option maxHeartbeats 1000000 in
set_option maxRecDepth 100000 in
theorem contains_val_calls (g : Nat) (lb : Array Value) (eg : ∀ args w, (callFunc g args).run Try.prog w = .ok (.enter g args) w) (p : VL → Bool) (A : Option Addr) (c : Nat) (l : List VL) (w : World) (hr : RowOf encVal 2 w A l) (hm : l.length ≤ 9223372036854775807)
    (hp : PredB Try.prog g lb aggVal p w) :
    Calls Try.prog 97 #[.slice A l.length c, .func (.func g) #[] lb] w fun e w' => e = .returned (.bool (l.any p)) ∧ Below w.heap.size w w' := by
  have H := index_val_calls g lb eg p A c l w hr hm hp
  rw [← idxF_any p l]
  generalize idxF p l = r at H
  clear hr hp
  go_enter Try.func97, Try.ntmps97
  go_wp2_with (go_at_call 100; refine H.mono ?_; rintro e w' ⟨rfl, hb⟩)
  go_ret
  exact ⟨rfl, hb⟩

set_option maxHeartbeats 1000000 in
set_option maxRecDepth 100000 in
theorem all1_val (g : Nat) (lb : Array Value) (eg : ∀ args w, (callFunc g args).run Try.prog w = .ok (.enter g args) w) (p : VL → Bool) (B : Nat) (w : World) (hc : w.cell? ⟨B, 0, none⟩ = some (.func (.func g) #[] lb))
    (hp : PredB Try.prog g lb aggVal p w) : PredB Try.prog 98 #[.pointer (some ⟨B, 0, none⟩)] aggVal (fun x => !p x) w := fun W x hb => by
  have hc1 := below_cell hb hc
  have hB : B < W.heap.size := cell_lt hc1
  have hB1 : ¬ B = W.heap.size := by omega
  have hB2 : ¬ W.heap.size = B := by omega
  have hw1 : Below W.heap.size W (W.alloc (.cells #[.bool x.has, .string x.s] 29)) := (Below.refl _ _).alloc (Nat.le_refl _) _
  have hpk : Calls Try.prog g (#[.agg #[.bool x.has, .string x.s]] ++ lb) (W.alloc (.cells #[.bool x.has, .string x.s] 29)) (fun e w' => e = .returned (.bool (p x)) ∧ Below (W.alloc (.cells #[.bool x.has, .string x.s] 29)).heap.size (W.alloc (.cells #[.bool x.has, .string x.s] 29)) w') := hp (W.alloc (.cells #[.bool x.has, .string x.s] 29)) x (below_trans hb hw1)
  clear hp
  show Calls Try.prog 98 #[.agg #[.bool x.has, .string x.s], .pointer (some ⟨B, 0, none⟩)] W fun e w' => e = .returned (.bool (!p x)) ∧ Below W.heap.size W w'
  generalize p x = q at hpk ⊢
  go_enter Try.func98, Try.ntmps98
  go_wp2_with (refine hpk.mono ?_; rintro e w1 ⟨rfl, hb1⟩)
  go_ret
  exact ⟨rfl, below_trans hw1 hb1⟩

set_option maxHeartbeats 1000000 in
set_option maxRecDepth 100000 in
theorem all_val_calls (g : Nat) (lb : Array Value) (eg : ∀ args w, (callFunc g args).run Try.prog w = .ok (.enter g args) w) (p : VL → Bool) (A : Option Addr) (c : Nat) (l : List VL) (w : World) (hr : RowOf encVal 2 w A l) (hm : l.length ≤ 9223372036854775807)
    (hp : PredB Try.prog g lb aggVal p w) :
    Calls Try.prog 92 #[.slice A l.length c, .func (.func g) #[] lb] w fun e w' => e = .returned (.bool (l.all p)) ∧ Below w.heap.size w w' := by
  have eg1 : ∀ args w, (callFunc 98 args).run Try.prog w = .ok (.enter 98 args) w := Go.Proofs.enters_of Try.func98 (by kernel_rfl) rfl
  have hb0 : Below w.heap.size w (w.alloc (.cells #[.func (.func g) #[] lb] 84)) := (Below.refl _ _).alloc (Nat.le_refl _) _
  have H := contains_val_calls 98 #[.pointer (some ⟨w.heap.size, 0, none⟩)] eg1 (fun x => !p x) A c l (w.alloc (.cells #[.func (.func g) #[] lb] 84)) (hr.below hb0) hm
    (all1_val g lb eg p w.heap.size _ (by simp) (fun W x hb => hp W x (below_trans hb0 hb)))
  rw [← any_not_all p l]
  generalize (l.any fun x => !p x) = r at H
  clear hr hp
  go_enter Try.func92, Try.ntmps92
  go_wp2_with (go_at_call 97; refine H.mono ?_; rintro e w' ⟨rfl, hb⟩)
  go_ret
  exact ⟨rfl, below_trans hb0 hb⟩

set_option maxHeartbeats 2000000 in
set_option maxRecDepth 100000 in
theorem index_rec_calls (g : Nat) (lb : Array Value) (eg : ∀ args w, (callFunc g args).run Try.prog w = .ok (.enter g args) w) (p : RC → Bool) (A : Option Addr) (c : Nat) (l : List RC) (w : World) (hr : RowOf encRec 11 w A l) (hm : l.length ≤ 9223372036854775807)
    (hp : PredB Try.prog g lb aggRec p w) :
    Calls Try.prog 76 #[.slice A l.length c, .func (.func g) #[] lb] w fun e w' => e = .returned (.int .i64 (idxF p l)) ∧ Below w.heap.size w w' := by
  have HR := Sh.mk hr
  have HP := Sh.mk hp
  clear hr hp
  go_enter Try.func76, Try.ntmps76
  go_wp2
  go_loopw [8] (fun i wr => ∃ k : Nat, k ≤ l.length ∧ i = .int .i64 k ∧ Sh (∀ j (hj : j < l.length), j < k → p l[j] = false) ∧ Sh (Below w.heap.size w wr)) (fun i _ => l.length - (intOf i).toNat)
  case atStart => exact ⟨0, Nat.zero_le _, rfl, ⟨fun _ _ h => by omega⟩, ⟨Below.refl _ _⟩⟩
  case round =>
    obtain ⟨k, hk, rfl, HN, HB⟩ := hrel
    by_cases hlt : k < l.length
    · obtain ⟨b, off, rfl, hc⟩ := HR.out k hlt
      have HC := Sh.mk (fun j v hv => below_cell HB.out (hc j v hv))
      clear hc
      have hpk := HP.out wr l[k] HB.out
      obtain ⟨x, hx⟩ : ∃ x, x = l[k] := ⟨_, rfl⟩
      rw [← hx] at hpk HC
      have HX := Sh.mk hx
      clear hx
      have hc0 : wr.cell? ⟨b, off + k * 11, none⟩ = some (.int .i64 x.kind) := by simpa using HC.out 0 _ rfl
      have hc1 : wr.cell? ⟨b, off + k * 11 + 1, none⟩ = some (.int .i64 x.gsn) := by simpa using HC.out 1 _ rfl
      have hc2 : wr.cell? ⟨b, off + k * 11 + 2, none⟩ = some (.int .i64 x.txn) := by simpa using HC.out 2 _ rfl
      have hc3 : wr.cell? ⟨b, off + k * 11 + 3, none⟩ = some (.int .i64 x.prev) := by simpa using HC.out 3 _ rfl
      have hc4 : wr.cell? ⟨b, off + k * 11 + 4, none⟩ = some (.int .i64 x.page) := by simpa using HC.out 4 _ rfl
      have hc5 : wr.cell? ⟨b, off + k * 11 + 5, none⟩ = some (.string x.key) := by simpa using HC.out 5 _ rfl
      have hc6 : wr.cell? ⟨b, off + k * 11 + 6, none⟩ = some (.bool x.bef.has) := by simpa using HC.out 6 _ rfl
      have hc7 : wr.cell? ⟨b, off + k * 11 + 7, none⟩ = some (.string x.bef.s) := by simpa using HC.out 7 _ rfl
      have hc8 : wr.cell? ⟨b, off + k * 11 + 8, none⟩ = some (.bool x.aft.has) := by simpa using HC.out 8 _ rfl
      have hc9 : wr.cell? ⟨b, off + k * 11 + 9, none⟩ = some (.string x.aft.s) := by simpa using HC.out 9 _ rfl
      have hc10 : wr.cell? ⟨b, off + k * 11 + 10, none⟩ = some (.int .i64 x.undo) := by simpa using HC.out 10 _ rfl
      replace hpk : Calls Try.prog g (#[.agg #[.int .i64 x.kind, .int .i64 x.gsn, .int .i64 x.txn, .int .i64 x.prev, .int .i64 x.page, .string x.key, .bool x.bef.has, .string x.bef.s, .bool x.aft.has, .string x.aft.s, .int .i64 x.undo]] ++ lb) wr (fun e w' => e = .returned (.bool (p x)) ∧ Below wr.heap.size wr w') := hpk
      obtain ⟨q, hq⟩ : ∃ q, q = p x := ⟨_, rfl⟩
      rw [← hq] at hpk
      have HQ := Sh.mk (hq.trans (congrArg p HX.out))
      clear hq
      cases q
      · go_wp2_with (refine hpk.mono ?_; rintro e w1 ⟨rfl, hb1⟩)
        go_roundw
        case rel => exact ⟨k + 1, by omega, by go_num, ⟨ext_false HN.out hlt HQ.out.symm⟩, ⟨below_trans HB.out hb1⟩⟩
        case measure => simp [intOf]; omega
      · go_wp2_with (refine hpk.mono ?_; rintro e w1 ⟨rfl, hb1⟩)
        go_ret
        exact ⟨by rw [idxF_hit HN.out hlt HQ.out.symm]; rfl, below_trans HB.out hb1⟩
    · go_wp2
      go_ret
      exact ⟨by rw [idxF_none (fun j hj => HN.out j hj (by omega))]; rfl, HB.out⟩

set_option maxHeartbeats 1000000 in
set_option maxRecDepth 100000 in
theorem contains_rec_calls (g : Nat) (lb : Array Value) (eg : ∀ args w, (callFunc g args).run Try.prog w = .ok (.enter g args) w) (p : RC → Bool) (A : Option Addr) (c : Nat) (l : List RC) (w : World) (hr : RowOf encRec 11 w A l) (hm : l.length ≤ 9223372036854775807)
    (hp : PredB Try.prog g lb aggRec p w) :
    Calls Try.prog 50 #[.slice A l.length c, .func (.func g) #[] lb] w fun e w' => e = .returned (.bool (l.any p)) ∧ Below w.heap.size w w' := by
  have H := index_rec_calls g lb eg p A c l w hr hm hp
  rw [← idxF_any p l]
  generalize idxF p l = r at H
  clear hr hp
  go_enter Try.func50, Try.ntmps50
  go_wp2_with (go_at_call 76; refine H.mono ?_; rintro e w' ⟨rfl, hb⟩)
  go_ret
  exact ⟨rfl, hb⟩

set_option maxHeartbeats 1000000 in
set_option maxRecDepth 100000 in
theorem all1_rec (g : Nat) (lb : Array Value) (eg : ∀ args w, (callFunc g args).run Try.prog w = .ok (.enter g args) w) (p : RC → Bool) (B : Nat) (w : World) (hc : w.cell? ⟨B, 0, none⟩ = some (.func (.func g) #[] lb))
    (hp : PredB Try.prog g lb aggRec p w) : PredB Try.prog 51 #[.pointer (some ⟨B, 0, none⟩)] aggRec (fun x => !p x) w := fun W x hb => by
  have hc1 := below_cell hb hc
  have hB : B < W.heap.size := cell_lt hc1
  have hB1 : ¬ B = W.heap.size := by omega
  have hB2 : ¬ W.heap.size = B := by omega
  have hw1 : Below W.heap.size W (W.alloc (.cells #[.int .i64 x.kind, .int .i64 x.gsn, .int .i64 x.txn, .int .i64 x.prev, .int .i64 x.page, .string x.key, .bool x.bef.has, .string x.bef.s, .bool x.aft.has, .string x.aft.s, .int .i64 x.undo] 31)) := (Below.refl _ _).alloc (Nat.le_refl _) _
  have hpk : Calls Try.prog g (#[.agg #[.int .i64 x.kind, .int .i64 x.gsn, .int .i64 x.txn, .int .i64 x.prev, .int .i64 x.page, .string x.key, .bool x.bef.has, .string x.bef.s, .bool x.aft.has, .string x.aft.s, .int .i64 x.undo]] ++ lb) (W.alloc (.cells #[.int .i64 x.kind, .int .i64 x.gsn, .int .i64 x.txn, .int .i64 x.prev, .int .i64 x.page, .string x.key, .bool x.bef.has, .string x.bef.s, .bool x.aft.has, .string x.aft.s, .int .i64 x.undo] 31)) (fun e w' => e = .returned (.bool (p x)) ∧ Below (W.alloc (.cells #[.int .i64 x.kind, .int .i64 x.gsn, .int .i64 x.txn, .int .i64 x.prev, .int .i64 x.page, .string x.key, .bool x.bef.has, .string x.bef.s, .bool x.aft.has, .string x.aft.s, .int .i64 x.undo] 31)).heap.size (W.alloc (.cells #[.int .i64 x.kind, .int .i64 x.gsn, .int .i64 x.txn, .int .i64 x.prev, .int .i64 x.page, .string x.key, .bool x.bef.has, .string x.bef.s, .bool x.aft.has, .string x.aft.s, .int .i64 x.undo] 31)) w') := hp (W.alloc (.cells #[.int .i64 x.kind, .int .i64 x.gsn, .int .i64 x.txn, .int .i64 x.prev, .int .i64 x.page, .string x.key, .bool x.bef.has, .string x.bef.s, .bool x.aft.has, .string x.aft.s, .int .i64 x.undo] 31)) x (below_trans hb hw1)
  clear hp
  show Calls Try.prog 51 #[.agg #[.int .i64 x.kind, .int .i64 x.gsn, .int .i64 x.txn, .int .i64 x.prev, .int .i64 x.page, .string x.key, .bool x.bef.has, .string x.bef.s, .bool x.aft.has, .string x.aft.s, .int .i64 x.undo], .pointer (some ⟨B, 0, none⟩)] W fun e w' => e = .returned (.bool (!p x)) ∧ Below W.heap.size W w'
  generalize p x = q at hpk ⊢
  go_enter Try.func51, Try.ntmps51
  go_wp2_with (refine hpk.mono ?_; rintro e w1 ⟨rfl, hb1⟩)
  go_ret
  exact ⟨rfl, below_trans hw1 hb1⟩

set_option maxHeartbeats 1000000 in
set_option maxRecDepth 100000 in
theorem all_rec_calls (g : Nat) (lb : Array Value) (eg : ∀ args w, (callFunc g args).run Try.prog w = .ok (.enter g args) w) (p : RC → Bool) (A : Option Addr) (c : Nat) (l : List RC) (w : World) (hr : RowOf encRec 11 w A l) (hm : l.length ≤ 9223372036854775807)
    (hp : PredB Try.prog g lb aggRec p w) :
    Calls Try.prog 41 #[.slice A l.length c, .func (.func g) #[] lb] w fun e w' => e = .returned (.bool (l.all p)) ∧ Below w.heap.size w w' := by
  have eg1 : ∀ args w, (callFunc 51 args).run Try.prog w = .ok (.enter 51 args) w := Go.Proofs.enters_of Try.func51 (by kernel_rfl) rfl
  have hb0 : Below w.heap.size w (w.alloc (.cells #[.func (.func g) #[] lb] 65)) := (Below.refl _ _).alloc (Nat.le_refl _) _
  have H := contains_rec_calls 51 #[.pointer (some ⟨w.heap.size, 0, none⟩)] eg1 (fun x => !p x) A c l (w.alloc (.cells #[.func (.func g) #[] lb] 65)) (hr.below hb0) hm
    (all1_rec g lb eg p w.heap.size _ (by simp) (fun W x hb => hp W x (below_trans hb0 hb)))
  rw [← any_not_all p l]
  generalize (l.any fun x => !p x) = r at H
  clear hr hp
  go_enter Try.func41, Try.ntmps41
  go_wp2_with (go_at_call 50; refine H.mono ?_; rintro e w' ⟨rfl, hb⟩)
  go_ret
  exact ⟨rfl, below_trans hb0 hb⟩
end Go.Proofs.Ytbjpilnlkmajpaa
