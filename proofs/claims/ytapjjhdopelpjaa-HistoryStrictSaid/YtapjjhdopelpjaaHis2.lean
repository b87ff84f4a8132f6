import Derived.Test.YtapjjhdopelpjaaHis1
namespace Go.Proofs.Ytapjjhdopelpjaa
set_option linter.unusedVariables false
set_option linter.unusedSimpArgs false
open Go.RowKit Go.Maps Go.Proofs.K

def thatStep (kind : Int) (s : List Int) (e : EV) : List Int := if e.kind == kind then addS s e.txn else s
def thatF (l : List EV) (kind : Int) : List Int := l.foldl (thatStep kind) []
theorem thatStep_len (kind : Int) (l : List EV) : ∀ s, (l.foldl (thatStep kind) s).length ≤ s.length + l.length := by
  induction l with
  | nil => intro s; simp
  | cons e r ih =>
    intro s
    rw [List.foldl_cons]
    have h1 := ih (thatStep kind s e)
    have h2 : (thatStep kind s e).length ≤ s.length + 1 := by
      unfold thatStep
      split
      · exact (addS_len s e.txn).1
      · omega
    simp only [List.length_cons]
    omega
theorem thatF_len (l : List EV) (kind : Int) : (thatF l kind).length ≤ l.length := by
  have := thatStep_len kind l []
  simpa [thatF] using this

set_option maxHeartbeats 2000000 in
set_option maxRecDepth 100000 in
theorem that_calls (A : Option Addr) (c : Nat) (l : List EV) (kind : Int) (w : World) (hr : RowOf encEV 3 w A l) (hl : l.length ≤ 1000000) :
    Calls Try.prog 22 #[.slice A l.length c, .int .i64 kind] w fun e w' => ∃ p, e = .returned (.pointer (some ⟨p, 0, none⟩)) ∧ IsSet w' p (fun j => w.heap.size ≤ j) (thatF l kind) ∧ Below w.heap.size w w' := by
  have HR := Sh.mk hr
  have hl2 : l.length ≤ 9223372036854775807 := by omega
  clear hr
  go_enter Try.func22, Try.ntmps22
  go_wp2_with fail
  refine wp_gen (fun W => IsSet W w.heap.size (fun j => w.heap.size ≤ j) [] ∧ Below w.heap.size w W) ⟨(IsSet.new (Blk.new w 72 [.slice none 0 0])).mono (fun k h => by omega), bl_alloc (Below.refl _ _) _⟩ ?_
  rintro W0 ⟨hS0, hB0⟩
  have HS0 := Sh.mk hS0
  have HB0 := Sh.mk hB0
  clear hS0 hB0
  go_loopw [12] (fun i wr => ∃ k : Nat, k ≤ l.length ∧ i = .int .i64 k ∧ Sh (IsSet wr w.heap.size (fun j => w.heap.size ≤ j) ((l.take k).foldl (thatStep kind) [])) ∧ Sh (Below w.heap.size w wr)) (fun i _ => l.length - (intOf i).toNat)
  case atStart => exact ⟨0, Nat.zero_le _, rfl, HS0, HB0⟩
  case round =>
    clear HS0 HB0 W0
    obtain ⟨k, hk, rfl, HS, HB⟩ := hrel
    by_cases hlt : k < l.length
    · obtain ⟨x, hx⟩ : ∃ x, x = l[k] := ⟨_, rfl⟩
      obtain ⟨b, off, hAe, hc⟩ := HR.out k hlt
      subst hAe
      rw [← hx] at hc
      have c0 : wr.cell? ⟨b, off + k * 3, none⟩ = some (.int .i64 x.txn) := below_cell HB.out (hc 0 _ rfl)
      have c1 : wr.cell? ⟨b, off + k * 3 + 1, none⟩ = some (.int .i64 x.kind) := below_cell HB.out (hc 1 _ rfl)
      have c2 : wr.cell? ⟨b, off + k * 3 + 2, none⟩ = some (.string x.key) := below_cell HB.out (hc 2 _ rfl)
      have HFS := Sh.mk (foldl_succ (thatStep kind) [] l k hlt hx)
      have hlen : ((l.take k).foldl (thatStep kind) []).length ≤ 1000000 := by
        have h1 := thatStep_len kind (l.take k) []
        have h2 := List.length_take_le k l
        simp only [List.length_nil] at h1
        omega
      have HLN := Sh.mk hlen
      clear hx hc hlen
      generalize (l.take k).foldl (thatStep kind) [] = s at HS HFS HLN
      by_cases hke : x.kind = kind
      · have d1 : (x.kind == kind) = true := by simp [hke]
        have HD := Sh.mk d1
        clear hke
        have hlts := HB.out.size
        go_wp2_with fail
        refine calls_gen (fun W => Sh (IsSet W w.heap.size (fun j => w.heap.size ≤ j ∧ j < wr.heap.size) s) ∧ Sh (Below w.heap.size w W) ∧ Sh (Blk W (wr.heap.size + 1) 3 [.int .i64 x.txn])) ⟨⟨(HS.out.tight.below (bl_alloc (bl_alloc (Below.refl _ _) _) _))⟩, ⟨bl_alloc (bl_alloc HB.out _) _⟩, ⟨Blk.new' (by simp)⟩⟩ ?_
        rintro W1 ⟨HS1, HB1, HX1⟩
        have hgs := HX1.out.lt
        refine (SAdd_calls w.heap.size _ s (some ⟨wr.heap.size + 1, 0, none⟩) 1 [x.txn] _ HS1.out (by exact Blk.row (enc := encInt) (x := x.txn) (sz := 1) HX1.out) (fun a ha hF => by injection ha with ha; subst ha; have := hF.2; dsimp only at this; omega) (by have := HLN.out; simp; omega)).mono ?_
        rintro r w4 ⟨rfl, hS4, hc4⟩
        have h3w := HB1.out.size
        have HS4 := Sh.mk (show IsSet w4 w.heap.size (fun j => w.heap.size ≤ j) (thatStep kind s x) by
          have e : thatStep kind s x = addL s [x.txn] := by unfold thatStep; rw [HD.out]; rfl
          rw [e]
          exact hS4.mono (fun k h => by rcases h with h | h; exact h.1; omega))
        have HB4 := Sh.mk (((Chg.of_below (F := fun k => w.heap.size ≤ k) HB1.out).trans hc4 (fun k _ h => h.1)).below (fun k hk e => by omega))
        clear hS4 hc4 HS HB HS1 HB1 HX1 c0 c1 c2
        go_wp2_with fail
        go_roundw
        case rel => exact ⟨k + 1, by omega, by go_num, ⟨by rw [HFS.out]; exact HS4.out⟩, HB4⟩
        case measure => simp [intOf]; omega
      · have d1 : (x.kind == kind) = false := by simp [hke]
        have HD := Sh.mk d1
        clear hke
        go_wp2_with fail
        go_roundw
        case rel => exact ⟨k + 1, by omega, by go_num, ⟨by
          rw [HFS.out]
          have e : thatStep kind s x = s := by unfold thatStep; rw [HD.out]; rfl
          rw [e]
          exact HS.out.below (bl_alloc (Below.refl _ _) _)⟩, ⟨bl_alloc HB.out _⟩⟩
        case measure => simp [intOf]; omega
    · obtain rfl : k = l.length := by omega
      rw [List.take_length] at HS
      go_wp2_with fail
      go_ret
      exact ⟨_, rfl, HS.out, HB.out⟩

def wrP (g : List Int) (key : ByteArray) (e : EV) : Bool := e.kind == 2 && decide (e.key = key) && !g.contains e.txn
def wrF (g : List Int) (key : ByteArray) (l : List EV) : Option Int := (l.reverse.find? (wrP g key)).map EV.txn
def writerF (l : List EV) (key : ByteArray) : Option Int := wrF (thatF l 4) key l
theorem wrF_succ (g : List Int) (key : ByteArray) (l : List EV) (k : Nat) (h : k < l.length) : wrF g key (l.take (k + 1)) = if wrP g key l[k] = true then some l[k].txn else wrF g key (l.take k) := by
  unfold wrF
  rw [List.take_succ_eq_append_getElem h, List.reverse_append, List.reverse_cons, List.reverse_nil, List.nil_append, List.singleton_append, List.find?_cons]
  cases hp : wrP g key l[k] <;> simp

set_option maxHeartbeats 2000000 in
set_option maxRecDepth 100000 in
theorem writer_calls (A : Option Addr) (c : Nat) (l : List EV) (key : ByteArray) (w : World) (hr : RowOf encEV 3 w A l) (hl : l.length ≤ 1000000) :
    Calls Try.prog 28 #[.slice A l.length c, .string key] w fun e w' => e = .returned (.tuple #[.int .i64 ((writerF l key).getD 0), .bool (writerF l key).isSome]) ∧ Below w.heap.size w w' := by
  have HR := Sh.mk hr
  have HT := Sh.mk (that_calls A c l 4 w hr hl)
  have hl2 : l.length ≤ 9223372036854775807 := by omega
  have hwr : writerF l key = wrF (thatF l 4) key l := rfl
  have HG := Sh.mk hwr
  have HLN := Sh.mk (thatF_len l 4)
  generalize writerF l key = R at HG
  clear hr hwr
  generalize thatF l 4 = g at HG HT HLN
  go_enter Try.func28, Try.ntmps28
  go_wp2_with fail
  refine HT.out.mono ?_
  rintro e W0 ⟨p, rfl, hS0, hB0⟩
  have HS0 := Sh.mk hS0
  have HB0 := Sh.mk hB0
  clear hS0 hB0 HT
  go_wp2_with fail
  go_loopw [7] (fun i wr => ∃ k : Nat, k ≤ l.length ∧ i = .int .i64 ((k : Int) - 1) ∧ Sh (R = wrF g key (l.take k)) ∧ Sh (IsSet wr p (fun j => w.heap.size ≤ j) g) ∧ Sh (Below w.heap.size w wr)) (fun i _ => (intOf i + 1).toNat)
  case atStart => exact ⟨l.length, Nat.le_refl _, by go_num, ⟨by rw [List.take_length]; exact HG.out⟩, HS0, HB0⟩
  case round =>
    clear HS0 HB0 HG
    obtain ⟨k, hk, rfl, HP, HS, HB⟩ := hrel
    cases k with
    | zero =>
      go_wp2_with fail
      go_ret2
      refine ⟨?_, HB.out⟩
      rw [HP.out]
      rfl
    | succ k =>
      rw [show ((k + 1 : Nat) : Int) - 1 = (k : Int) by omega]
      have hlt : k < l.length := by omega
      rw [wrF_succ g key l k hlt] at HP
      obtain ⟨x, hx⟩ : ∃ x, x = l[k] := ⟨_, rfl⟩
      obtain ⟨b, off, hAe, hc⟩ := HR.out k hlt
      subst hAe
      rw [← hx] at hc HP
      have c0 : wr.cell? ⟨b, off + k * 3, none⟩ = some (.int .i64 x.txn) := below_cell HB.out (hc 0 _ rfl)
      have c1 : wr.cell? ⟨b, off + k * 3 + 1, none⟩ = some (.int .i64 x.kind) := below_cell HB.out (hc 1 _ rfl)
      have c2 : wr.cell? ⟨b, off + k * 3 + 2, none⟩ = some (.string x.key) := below_cell HB.out (hc 2 _ rfl)
      clear hx
      by_cases h1 : x.kind = 2
      case neg =>
        have d1 : (x.kind == 2) = false := by simp [h1]
        have HD := Sh.mk d1
        clear h1
        go_wp2_with fail
        go_roundw
        case rel => exact ⟨k, by omega, by go_num, ⟨by rw [HP.out, if_neg (by unfold wrP; rw [HD.out]; simp)]⟩, HS, HB⟩
        case measure => simp [intOf] <;> omega
      have d1 : (x.kind == 2) = true := by simp [h1]
      have HD := Sh.mk d1
      clear h1
      by_cases h2 : x.key = key
      case neg =>
        have hk2 : ¬ x.key.toList = key.toList := fun h => h2 (toList_inj.1 h)
        have d2 : (x.key.toList == key.toList) = false := by simp [hk2]
        have HD2 := Sh.mk h2
        clear h2 hk2
        go_wp2_with fail
        go_roundw
        case rel => exact ⟨k, by omega, by go_num, ⟨by rw [HP.out, if_neg (by unfold wrP; simp [HD2.out])]⟩, HS, HB⟩
        case measure => simp [intOf] <;> omega
      have d2 : (x.key.toList == key.toList) = true := by simp [h2]
      have HD2 := Sh.mk h2
      clear h2
      go_wp2_with fail
      refine (SHas_calls p _ g (some ⟨wr.heap.size, 0, none⟩) 1 [x.txn] _ (HS.out.below (bl_alloc (Below.refl _ _) _)) (by exact Blk.row (enc := encInt) (x := x.txn) (sz := 1) (Blk.new wr 3 [.int .i64 x.txn])) (by have := HLN.out; omega) (by simp)).mono ?_
      rintro r w2 ⟨rfl, hb2⟩
      have hb2' := below_trans (bl_alloc (Below.refl _ _) (.cells #[.int .i64 x.txn] 3)) hb2
      have HS2 := Sh.mk (HS.out.below hb2')
      have HB2 := Sh.mk (below_trans HB.out hb2')
      have y0 : w2.cell? ⟨b, off + k * 3, none⟩ = some (.int .i64 x.txn) := below_cell HB2.out (hc 0 _ rfl)
      clear hb2 hb2' c0 c1 c2 hc HS HB
      rw [show [x.txn].all g.contains = g.contains x.txn by simp]
      generalize hq : g.contains x.txn = q
      have HQ := Sh.mk hq
      clear hq
      cases q
      · go_wp2_with fail
        go_ret2
        refine ⟨?_, HB2.out⟩
        rw [HP.out, if_pos (by unfold wrP; rw [HD.out, HQ.out]; simp [HD2.out])]
        rfl
      · go_wp2_with fail
        go_roundw
        case rel => exact ⟨k, by omega, by go_num, ⟨by rw [HP.out, if_neg (by unfold wrP; rw [HQ.out]; simp)]⟩, HS2, HB2⟩
        case measure => simp [intOf] <;> omega
end Go.Proofs.Ytapjjhdopelpjaa
