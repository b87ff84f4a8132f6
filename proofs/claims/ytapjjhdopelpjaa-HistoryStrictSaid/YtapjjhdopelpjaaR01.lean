import Derived.Test.YtapjjhdopelpjaaSer
import Derived.Laws.StructEq
namespace Go.Proofs.Ytapjjhdopelpjaa
set_option linter.unusedVariables false
set_option linter.unusedSimpArgs false
open Go.RowKit Go.Maps Go.Proofs.K

/-! Lists that rise, with one more or without it: as ref01.With and ref18.Set go over them. -/
section
variable {α : Type}
def putStep (ge ne : α → Bool) (y : α) (s : List α × Bool) (x : α) : List α × Bool :=
  (if ne x = true then (if (!s.2 && ge x) = true then s.1 ++ [y] else s.1) ++ [x] else (if (!s.2 && ge x) = true then s.1 ++ [y] else s.1), s.2 || ge x)
def putF (ge ne : α → Bool) (y : α) (inn : Bool) (l : List α) : List α :=
  if (l.foldl (putStep ge ne y) ([], !inn)).2 = true then (l.foldl (putStep ge ne y) ([], !inn)).1 else (l.foldl (putStep ge ne y) ([], !inn)).1 ++ [y]
theorem fold_done (ge ne : α → Bool) (y : α) : ∀ (l acc : List α), l.foldl (putStep ge ne y) (acc, true) = (acc ++ l.filter ne, true)
  | [], acc => by simp
  | x :: l, acc => by
    rw [List.foldl_cons]
    cases h : ne x
    · rw [show putStep ge ne y (acc, true) x = (acc, true) by simp [putStep, h], fold_done ge ne y l acc]
      simp [h]
    · rw [show putStep ge ne y (acc, true) x = (acc ++ [x], true) by simp [putStep, h], fold_done ge ne y l (acc ++ [x])]
      simp [h]
theorem put_out (ge ne : α → Bool) (y : α) (l : List α) : putF ge ne y false l = l.filter ne := by
  unfold putF
  rw [show (!false) = true from rfl, fold_done ge ne y l []]
  simp
theorem put_fold (ge ne : α → Bool) (y : α) : ∀ (l acc : List α),
    (if (l.foldl (putStep ge ne y) (acc, false)).2 = true then (l.foldl (putStep ge ne y) (acc, false)).1 else (l.foldl (putStep ge ne y) (acc, false)).1 ++ [y]) =
      acc ++ ((l.takeWhile fun x => !ge x).filter ne ++ y :: (l.dropWhile fun x => !ge x).filter ne)
  | [], acc => by simp
  | x :: l, acc => by
    rw [List.foldl_cons]
    cases hg : ge x <;> cases h : ne x
    · rw [show putStep ge ne y (acc, false) x = (acc, false) by simp [putStep, h, hg], put_fold ge ne y l acc]
      simp [h, hg]
    · rw [show putStep ge ne y (acc, false) x = (acc ++ [x], false) by simp [putStep, h, hg], put_fold ge ne y l (acc ++ [x])]
      simp [h, hg]
    · rw [show putStep ge ne y (acc, false) x = (acc ++ [y], true) by simp [putStep, h, hg], fold_done ge ne y l (acc ++ [y])]
      simp [h, hg]
    · rw [show putStep ge ne y (acc, false) x = (acc ++ [y] ++ [x], true) by simp [putStep, h, hg], fold_done ge ne y l (acc ++ [y] ++ [x])]
      simp [h, hg]
theorem put_in (ge ne : α → Bool) (y : α) (l : List α) : putF ge ne y true l = (l.takeWhile fun x => !ge x).filter ne ++ y :: (l.dropWhile fun x => !ge x).filter ne := by
  have h := put_fold ge ne y l []
  unfold putF
  rw [show (!true) = false from rfl, h]
  rfl
theorem take_while_not (ge : α → Bool) : ∀ (l : List α), ∀ x ∈ l.takeWhile (fun x => !ge x), ge x = false
  | a :: l, x, hx => by
    rw [List.takeWhile_cons] at hx
    cases h : ge a <;> simp [h] at hx
    rcases hx with rfl | hx
    · exact h
    · exact take_while_not ge l x hx
theorem drop_while_ge (ge : α → Bool) {R : α → α → Prop} (hm : ∀ a b, R a b → ge a = true → ge b = true) : ∀ (l : List α), l.Pairwise R → ∀ x ∈ l.dropWhile (fun x => !ge x), ge x = true
  | a :: l, hp, x, hx => by
    rw [List.dropWhile_cons] at hx
    rw [List.pairwise_cons] at hp
    cases h : ge a <;> simp [h] at hx
    · exact drop_while_ge ge hm l hp.2 x hx
    · rcases hx with rfl | hx
      · exact h
      · exact hm a x (hp.1 x hx) h
/-- Rising: with one more. -/
theorem put_in_up (ge ne : α → Bool) (y : α) (R : α → α → Prop) (l : List α) (hp : l.Pairwise R) (hm : ∀ a b, R a b → ge a = true → ge b = true) (ht : ∀ a b c, R a b → R b c → R a c)
    (h1 : ∀ x ∈ l, ge x = false → R x y) (h2 : ∀ x ∈ l, ge x = true → ne x = true → R y x) : (putF ge ne y true l).Pairwise R := by
  rw [put_in]
  have ha := List.takeWhile_sublist (l := l) (fun x => !ge x)
  have hb := List.dropWhile_sublist (l := l) (fun x => !ge x)
  rw [List.pairwise_append]
  have k1 : ∀ x ∈ (l.takeWhile fun x => !ge x).filter ne, R x y := fun x hx => by
    have hx' := (List.mem_filter.1 hx).1
    exact h1 x (ha.subset hx') (take_while_not ge l x hx')
  have k2 : ∀ x ∈ (l.dropWhile fun x => !ge x).filter ne, R y x := fun x hx => by
    obtain ⟨hx', hn⟩ := List.mem_filter.1 hx
    exact h2 x (hb.subset hx') (drop_while_ge ge hm l hp x hx') hn
  refine ⟨(hp.sublist ha).sublist List.filter_sublist, ?_, ?_⟩
  · rw [List.pairwise_cons]
    exact ⟨k2, (hp.sublist hb).sublist List.filter_sublist⟩
  · intro x hx z hz
    rcases List.mem_cons.1 hz with rfl | hz
    · exact k1 x hx
    · exact ht _ _ _ (k1 x hx) (k2 z hz)
theorem put_in_mem (ge ne : α → Bool) (y : α) (l : List α) (x : α) : x ∈ putF ge ne y true l ↔ x = y ∨ x ∈ l ∧ ne x = true := by
  rw [put_in]
  have h := List.takeWhile_append_dropWhile (p := fun x => !ge x) (l := l)
  have : x ∈ l ↔ x ∈ (l.takeWhile fun x => !ge x) ∨ x ∈ (l.dropWhile fun x => !ge x) := by rw [← List.mem_append, h]
  rw [List.mem_append, List.mem_cons, List.mem_filter, List.mem_filter, this]
  constructor
  · rintro (h | h | h)
    · exact .inr ⟨.inl h.1, h.2⟩
    · exact .inl h
    · exact .inr ⟨.inr h.1, h.2⟩
  · rintro (h | ⟨h | h, h'⟩)
    · exact .inr (.inl h)
    · exact .inl ⟨h, h'⟩
    · exact .inr (.inr ⟨h, h'⟩)
theorem put_length (ge ne : α → Bool) (y : α) (inn : Bool) (l : List α) : (putF ge ne y inn l).length ≤ l.length + 1 := by
  cases inn
  · rw [put_out]
    exact Nat.le_succ_of_le (List.length_filter_le _ _)
  · rw [put_in]
    have h := congrArg List.length (List.takeWhile_append_dropWhile (p := fun x => !ge x) (l := l))
    have h1 := List.length_filter_le ne (l.takeWhile fun x => !ge x)
    have h2 := List.length_filter_le ne (l.dropWhile fun x => !ge x)
    simp only [List.length_append, List.length_cons] at h ⊢
    omega
/-- While it goes, what is made has no more than was read, and one. -/
theorem put_go_length (ge ne : α → Bool) (y : α) (inn : Bool) : ∀ (l : List α), (l.foldl (putStep ge ne y) ([], !inn)).1.length ≤ l.length + 1 := by
  intro l
  have key : ∀ (l acc : List α) (b : Bool), (l.foldl (putStep ge ne y) (acc, b)).1.length ≤ acc.length + l.length + (if b = true then 0 else 1) := by
    intro l
    induction l with
    | nil => intro acc b; simp
    | cons x l ih =>
      intro acc b
      rw [List.foldl_cons]
      have := ih (putStep ge ne y (acc, b) x).1 (putStep ge ne y (acc, b) x).2
      rw [show ((putStep ge ne y (acc, b) x).1, (putStep ge ne y (acc, b) x).2) = putStep ge ne y (acc, b) x from rfl] at this
      refine Nat.le_trans this ?_
      cases b <;> cases hg : ge x <;> cases hn : ne x <;> simp [putStep, hg, hn] <;> omega
  refine Nat.le_trans (key l [] (!inn)) ?_
  cases inn <;> simp
end

def withF (l : List Int) (n : Int) (inn : Bool) : List Int := putF (fun x => decide (n ≤ x)) (fun x => x != n) n inn l
def hasF (l : List Int) (n : Int) : Bool := l.any (· == n)
theorem with_in {l : List Int} (h : l.Pairwise (· < ·)) (n : Int) : (withF l n true).Pairwise (· < ·) ∧ ∀ x, x ∈ withF l n true ↔ x = n ∨ x ∈ l := by
  refine ⟨put_in_up _ _ _ (· < ·) l h ?_ (fun a b c => Int.lt_trans) ?_ ?_, fun x => ?_⟩
  · intro a b hab ha
    simp at ha ⊢
    omega
  · intro x _ hx
    simp at hx
    exact hx
  · intro x _ hx hn
    simp at hx hn
    omega
  · unfold withF
    rw [put_in_mem]
    by_cases e : x = n <;> simp [e]
theorem with_out {l : List Int} (h : l.Pairwise (· < ·)) (n : Int) : (withF l n false).Pairwise (· < ·) ∧ ∀ x, x ∈ withF l n false ↔ x ∈ l ∧ x ≠ n := by
  unfold withF
  rw [put_out]
  refine ⟨h.sublist List.filter_sublist, fun x => ?_⟩
  rw [List.mem_filter]
  simp

theorem bl_alloc' {w W : World} (h : Below w.heap.size w W) (o : Obj) : Below w.heap.size w (W.alloc o) := bl_alloc h o
set_option maxHeartbeats 2000000 in
set_option maxRecDepth 100000 in
theorem same_calls (A A2 : Option Addr) (c c2 : Nat) (l l2 : List Int) (w : World) (hr : RowOf encInt 1 w A l) (hr2 : RowOf encInt 1 w A2 l2) (hl : l.length ≤ 9223372036854775807) (hl2 : l2.length ≤ 9223372036854775807) :
    Calls Try.prog 18 #[.slice A l.length c, .slice A2 l2.length c2] w fun e w' => e = .returned (.bool (decide (l = l2))) ∧ Below w.heap.size w w' := by
  have HR := Sh.mk hr
  have HR2 := Sh.mk hr2
  generalize hG : decide (l = l2) = R
  have HG := Sh.mk hG
  clear hG hr hr2
  go_enter Try.func18, Try.ntmps18
  by_cases hgr : l.length = l2.length
  · have hq1 : ((l.length : Int) != (l2.length : Int)) = false := by simp; omega
    go_wp2_with fail
    go_loopw [5] (fun i wr => ∃ k : Nat, k ≤ l.length ∧ i = .int .i64 k ∧ Below w.heap.size w wr ∧ Sh (l.take k = l2.take k)) (fun i _ => l.length - (intOf i).toNat)
    case atStart => exact ⟨0, Nat.zero_le _, rfl, Below.refl _ _, ⟨rfl⟩⟩
    case round =>
      obtain ⟨k, hk, rfl, hbw, HA⟩ := hrel
      by_cases hlt : k < l.length
      · obtain ⟨x, hx⟩ : ∃ x, x = l[k] := ⟨_, rfl⟩
        obtain ⟨y, hy⟩ : ∃ y, y = l2[k]'(by omega) := ⟨_, rfl⟩
        obtain ⟨b, off, rfl, hc⟩ := HR.out k hlt
        obtain ⟨b2, off2, rfl, hcc⟩ := HR2.out k (by omega)
        rw [← hx] at hc
        rw [← hy] at hcc
        have hc0 : wr.cell? ⟨b, off + k * 1, none⟩ = some (.int .i64 x) := below_cell hbw (hc 0 _ rfl)
        have hd0 : wr.cell? ⟨b2, off2 + k * 1, none⟩ = some (.int .i64 y) := below_cell hbw (hcc 0 _ rfl)
        rw [Nat.mul_one] at hc0 hd0
        have HX := Sh.mk (And.intro hx hy)
        clear hx hc hy hcc
        have hlt2 : k < l2.length := by omega
        by_cases hxy : x = y
        · have hz : (x != y) = false := by simp [hxy]
          have HE := Sh.mk hxy
          clear hxy
          go_wp2_with fail
          go_quiet (fail)
          go_wp2_with fail
          go_roundw
          case rel => exact ⟨k + 1, by omega, by go_num, bl_drewN hbw _, ⟨by rw [List.take_succ_eq_append_getElem hlt, List.take_succ_eq_append_getElem hlt2, HA.out, ← HX.out.1, ← HX.out.2, HE.out]⟩⟩
          case measure => simp [intOf]; omega
        · have hz : (x != y) = true := by simp [hxy]
          have HE := Sh.mk hxy
          clear hxy
          go_wp2_with fail
          go_quiet (fail)
          go_wp2_with fail
          go_ret
          refine ⟨?_, bl_drewN hbw _⟩
          rw [← HG.out]
          have hne : ¬ l = l2 := fun e => HE.out (by rw [HX.out.1, HX.out.2]; simp only [e])
          simp [hne]
      · obtain rfl : k = l.length := by omega
        go_wp2_with fail
        go_ret
        refine ⟨?_, hbw⟩
        rw [← HG.out]
        have he : l = l2 := by have h := HA.out; rw [List.take_length, hgr, List.take_length] at h; exact h
        simp [he]
  · have hq1 : ((l.length : Int) != (l2.length : Int)) = true := by simp; omega
    go_wp2_with fail
    go_ret
    refine ⟨?_, Below.refl _ _⟩
    rw [← HG.out]
    have hne : ¬ l = l2 := fun e => hgr (by rw [e])
    simp [hne]
set_option maxHeartbeats 1000000 in
set_option maxRecDepth 100000 in
theorem has_calls (A : Option Addr) (c : Nat) (l : List Int) (n : Int) (w : World) (hr : RowOf encInt 1 w A l) (hl : l.length ≤ 9223372036854775807) :
    Calls Try.prog 44 #[.slice A l.length c, .int .i64 n] w fun e w' => e = .returned (.bool (hasF l n)) ∧ Below w.heap.size w w' := by
  have HR := Sh.mk hr
  generalize hG : hasF l n = R
  have HG := Sh.mk hG
  clear hG hr
  go_enter Try.func44, Try.ntmps44
  go_wp2_with fail
  go_loopw [5] (fun i wr => ∃ k : Nat, k ≤ l.length ∧ i = .int .i64 k ∧ Below w.heap.size w wr ∧ Sh (hasF (l.take k) n = false)) (fun i _ => l.length - (intOf i).toNat)
  case atStart => exact ⟨0, Nat.zero_le _, rfl, Below.refl _ _, ⟨rfl⟩⟩
  case round =>
    obtain ⟨k, hk, rfl, hbw, HA⟩ := hrel
    by_cases hlt : k < l.length
    · obtain ⟨x, hx⟩ : ∃ x, x = l[k] := ⟨_, rfl⟩
      obtain ⟨b, off, rfl, hc⟩ := HR.out k hlt
      rw [← hx] at hc
      have hc0 : wr.cell? ⟨b, off + k * 1, none⟩ = some (.int .i64 x) := below_cell hbw (hc 0 _ rfl)
      rw [Nat.mul_one] at hc0
      have HX := Sh.mk hx
      clear hx hc
      by_cases hxy : x = n
      · have hz : (x == n) = true := by simp [hxy]
        have HE := Sh.mk hxy
        clear hxy
        go_wp2_with fail
        try go_quiet (fail)
        go_wp2_with fail
        go_ret
        refine ⟨?_, ?_⟩
        · have : hasF l n = true := List.any_eq_true.2 ⟨x, HX.out ▸ List.getElem_mem hlt, hz⟩
          rw [← HG.out, this]
          rfl
        · first | exact hbw | exact bl_drewN hbw _ | exact bl_drew hbw
      · have hz : (x == n) = false := by simp [hxy]
        have HE := Sh.mk hxy
        clear hxy
        go_wp2_with fail
        try go_quiet (fail)
        go_wp2_with fail
        go_roundw
        case rel => exact ⟨k + 1, by omega, by go_num, by first | exact hbw | exact bl_drewN hbw _ | exact bl_drew hbw, ⟨any_succ hlt HX.out HA.out hz⟩⟩
        case measure => simp [intOf]; omega
    · obtain rfl : k = l.length := by omega
      go_wp2_with fail
      go_ret
      refine ⟨?_, hbw⟩
      have h := HA.out
      rw [List.take_length] at h
      rw [← HG.out, h]
      rfl

set_option maxHeartbeats 4000000 in
set_option maxRecDepth 100000 in
theorem with_calls (A : Option Addr) (c : Nat) (l : List Int) (n : Int) (inn : Bool) (w : World) (hr : RowOf encInt 1 w A l) (hl : l.length ≤ 1000000000) :
    Calls Try.prog 43 #[.slice A l.length c, .int .i64 n, .bool inn] w fun e w' => ∃ v, e = .returned v ∧ Own encInt 3 1 w' w.heap.size v (withF l n inn) ∧ Below w.heap.size w w' := by
  have HR := Sh.mk hr
  have hl2 : l.length ≤ 9223372036854775807 := by omega
  clear hr
  obtain ⟨st, hst⟩ : ∃ st, st = putStep (fun x => decide (n ≤ x)) (fun x => x != n) (n : Int) := ⟨_, rfl⟩
  have HGL : Sh (∀ k, ((l.take k).foldl st ([], !inn)).1.length ≤ k + 1) := ⟨fun k => by rw [hst]; refine Nat.le_trans (put_go_length _ _ _ inn _) ?_; have := List.length_take_le k l; omega⟩
  have HST := Sh.mk hst
  clear hst
  go_enter Try.func43, Try.ntmps43
  have HB0 := Sh.mk (Below.refl w.heap.size w)
  go_wp2_with fail
  go_loopw [7, 8, 9] (fun v d i wr => ∃ (k : Nat) (q : Bool), k ≤ l.length ∧ i = .int .i64 k ∧ d = .bool q ∧ Below w.heap.size w wr ∧ Sh (q = ((l.take k).foldl st ([], !inn)).2) ∧ Sh (Own encInt 3 1 wr w.heap.size v ((l.take k).foldl st ([], !inn)).1)) (fun _ _ i _ => l.length - (intOf i).toNat)
  case atStart => exact ⟨0, _, Nat.zero_le _, rfl, rfl, Below.refl _ _, ⟨rfl⟩, ⟨Own.nil _ _ _ _ _⟩⟩
  case round =>
    obtain ⟨k, q, hk, rfl, rfl, hbw, HQ, HO⟩ := hrel
    have HL := Sh.mk (HGL.out k)
    by_cases hlt : k < l.length
    · obtain ⟨x, hx⟩ : ∃ x, x = l[k] := ⟨_, rfl⟩
      obtain ⟨b, off, rfl, hc⟩ := HR.out k hlt
      rw [← hx] at hc
      have hc0w : w.cell? ⟨b, off + k, none⟩ = some (.int .i64 x) := by simpa using hc 0 _ rfl
      have hc0 := below_cell hbw hc0w
      have HC := Sh.mk (And.intro hc0w hc0w)
      have HS := Sh.mk (foldl_succ st ([], !inn) l k hlt hx)
      clear hx hc hc0w
      generalize (l.take k).foldl st ([], !inn) = s at HQ HO HS HL
      obtain ⟨acc, q'⟩ := s
      obtain rfl : q = q' := HQ.out
      clear HQ
      dsimp only at HO HL
      cases q
      · by_cases hgx : n ≤ x
        · by_cases hex : x = n
          · have hg : decide (n ≤ x) = true := by simp; omega
            have hne : (x != n) = false := by simp; omega
            clear hgx hex
            go_wp2_with (at_builtin; refine Sh.out ?_)
            refine ⟨?_⟩
            refine wpl_push E_int rfl _ _ rfl w.heap.size _ acc (n : Int) wr.heap.size rfl rfl (HO.out.alloc _) (by exact Blk.new wr _ _) (by have := HL.out; simp; omega) (by have := HL.out; unfold maxLen; simp; omega) (by have := hbw.size; simp; omega) ?_
            intro v10 w10 ho hch _
            have hbw10 := push_below (w := w) (bl_alloc' hbw _) (HO.out.alloc _) hch
            have HO10 := Sh.mk ho
            clear ho hch HO
            have hc0' := below_cell hbw10 HC.out.1
            go_wp2_with fail
            go_roundw
            case rel =>
              refine ⟨k + 1, true, by omega, by go_num, rfl, hbw10, ⟨?_⟩, ?_⟩
              · rw [HS.out, HST.out]; simp [putStep, hg, hne]
              · have hE : st (acc, false) x = ((acc ++ [(n : Int)]), true) := by rw [HST.out]; simp [putStep, hg, hne]
                rw [HS.out, hE]
                exact HO10
            case measure => simp [intOf]; omega
          · have hg : decide (n ≤ x) = true := by simp; omega
            have hne : (x != n) = true := by simp; omega
            clear hgx hex
            go_wp2_with (at_builtin; refine Sh.out ?_)
            refine ⟨?_⟩
            refine wpl_push E_int rfl _ _ rfl w.heap.size _ acc (n : Int) wr.heap.size rfl rfl (HO.out.alloc _) (by exact Blk.new wr _ _) (by have := HL.out; simp; omega) (by have := HL.out; unfold maxLen; simp; omega) (by have := hbw.size; simp; omega) ?_
            intro v10 w10 ho hch _
            have hbw10 := push_below (w := w) (bl_alloc' hbw _) (HO.out.alloc _) hch
            have HO10 := Sh.mk ho
            clear ho hch HO
            have hc0' := below_cell hbw10 HC.out.1
            go_wp2_with (at_builtin; refine Sh.out ?_)
            refine ⟨?_⟩
            refine wpl_push E_int rfl _ _ rfl w.heap.size _ (acc ++ [(n : Int)]) x w10.heap.size rfl rfl (HO10.out.alloc _) (by exact Blk.new w10 _ _) (by have := HL.out; simp; omega) (by have := HL.out; unfold maxLen; simp; omega) (by have := hbw10.size; simp; omega) ?_
            intro v11 w11 ho hch _
            have hbw11 := push_below (w := w) (bl_alloc' hbw10 _) (HO10.out.alloc _) hch
            have HO11 := Sh.mk ho
            clear ho hch HO10
            go_wp2_with fail
            go_roundw
            case rel =>
              refine ⟨k + 1, true, by omega, by go_num, rfl, hbw11, ⟨?_⟩, ?_⟩
              · rw [HS.out, HST.out]; simp [putStep, hg, hne]
              · have hE : st (acc, false) x = (((acc ++ [(n : Int)]) ++ [x]), true) := by rw [HST.out]; simp [putStep, hg, hne]
                rw [HS.out, hE]
                exact HO11
            case measure => simp [intOf]; omega
        · by_cases hex : x = n
          · omega
          · have hg : decide (n ≤ x) = false := by simp; omega
            have hne : (x != n) = true := by simp; omega
            clear hgx hex
            go_wp2_with (at_builtin; refine Sh.out ?_)
            refine ⟨?_⟩
            refine wpl_push E_int rfl _ _ rfl w.heap.size _ acc x wr.heap.size rfl rfl (HO.out.alloc _) (by exact Blk.new wr _ _) (by have := HL.out; simp; omega) (by have := HL.out; unfold maxLen; simp; omega) (by have := hbw.size; simp; omega) ?_
            intro v10 w10 ho hch _
            have hbw10 := push_below (w := w) (bl_alloc' hbw _) (HO.out.alloc _) hch
            have HO10 := Sh.mk ho
            clear ho hch HO
            go_wp2_with fail
            go_roundw
            case rel =>
              refine ⟨k + 1, false, by omega, by go_num, rfl, hbw10, ⟨?_⟩, ?_⟩
              · rw [HS.out, HST.out]; simp [putStep, hg, hne]
              · have hE : st (acc, false) x = ((acc ++ [x]), false) := by rw [HST.out]; simp [putStep, hg, hne]
                rw [HS.out, hE]
                exact HO10
            case measure => simp [intOf]; omega
      · by_cases hgx : n ≤ x
        · by_cases hex : x = n
          · have hg : decide (n ≤ x) = true := by simp; omega
            have hne : (x != n) = false := by simp; omega
            clear hgx hex
            go_wp2_with fail
            go_roundw
            case rel =>
              refine ⟨k + 1, true, by omega, by go_num, rfl, hbw, ⟨?_⟩, ?_⟩
              · rw [HS.out, HST.out]; simp [putStep, hg, hne]
              · have hE : st (acc, true) x = (acc, true) := by rw [HST.out]; simp [putStep, hg, hne]
                rw [HS.out, hE]
                exact HO
            case measure => simp [intOf]; omega
          · have hg : decide (n ≤ x) = true := by simp; omega
            have hne : (x != n) = true := by simp; omega
            clear hgx hex
            go_wp2_with (at_builtin; refine Sh.out ?_)
            refine ⟨?_⟩
            refine wpl_push E_int rfl _ _ rfl w.heap.size _ acc x wr.heap.size rfl rfl (HO.out.alloc _) (by exact Blk.new wr _ _) (by have := HL.out; simp; omega) (by have := HL.out; unfold maxLen; simp; omega) (by have := hbw.size; simp; omega) ?_
            intro v10 w10 ho hch _
            have hbw10 := push_below (w := w) (bl_alloc' hbw _) (HO.out.alloc _) hch
            have HO10 := Sh.mk ho
            clear ho hch HO
            go_wp2_with fail
            go_roundw
            case rel =>
              refine ⟨k + 1, true, by omega, by go_num, rfl, hbw10, ⟨?_⟩, ?_⟩
              · rw [HS.out, HST.out]; simp [putStep, hg, hne]
              · have hE : st (acc, true) x = ((acc ++ [x]), true) := by rw [HST.out]; simp [putStep, hg, hne]
                rw [HS.out, hE]
                exact HO10
            case measure => simp [intOf]; omega
        · by_cases hex : x = n
          · omega
          · have hg : decide (n ≤ x) = false := by simp; omega
            have hne : (x != n) = true := by simp; omega
            clear hgx hex
            go_wp2_with (at_builtin; refine Sh.out ?_)
            refine ⟨?_⟩
            refine wpl_push E_int rfl _ _ rfl w.heap.size _ acc x wr.heap.size rfl rfl (HO.out.alloc _) (by exact Blk.new wr _ _) (by have := HL.out; simp; omega) (by have := HL.out; unfold maxLen; simp; omega) (by have := hbw.size; simp; omega) ?_
            intro v10 w10 ho hch _
            have hbw10 := push_below (w := w) (bl_alloc' hbw _) (HO.out.alloc _) hch
            have HO10 := Sh.mk ho
            clear ho hch HO
            go_wp2_with fail
            go_roundw
            case rel =>
              refine ⟨k + 1, true, by omega, by go_num, rfl, hbw10, ⟨?_⟩, ?_⟩
              · rw [HS.out, HST.out]; simp [putStep, hg, hne]
              · have hE : st (acc, true) x = ((acc ++ [x]), true) := by rw [HST.out]; simp [putStep, hg, hne]
                rw [HS.out, hE]
                exact HO10
            case measure => simp [intOf]; omega
    · obtain rfl : k = l.length := by omega
      rw [List.take_length] at HQ HO HL
      have HP : Sh (withF l n inn = if (l.foldl st ([], !inn)).2 = true then (l.foldl st ([], !inn)).1 else (l.foldl st ([], !inn)).1 ++ [n]) := ⟨by rw [HST.out]; rfl⟩
      generalize l.foldl st ([], !inn) = s at HQ HO HP HL
      obtain ⟨acc, q'⟩ := s
      obtain rfl : q = q' := HQ.out
      clear HQ
      dsimp only at HO HP HL
      cases q
      · go_wp2_with (at_builtin; refine Sh.out ?_)
        refine ⟨?_⟩
        refine wpl_push E_int rfl _ _ rfl w.heap.size _ acc (n : Int) wr.heap.size rfl rfl (HO.out.alloc _) (by exact Blk.new wr _ _) (by have := HL.out; simp; omega) (by have := HL.out; unfold maxLen; simp; omega) (by have := hbw.size; simp; omega) ?_
        intro v10 w10 ho hch _
        have hbw10 := push_below (w := w) (bl_alloc' hbw _) (HO.out.alloc _) hch
        have HO10 := Sh.mk ho
        clear ho hch HO
        go_wp2_with fail
        go_ret
        refine ⟨_, rfl, ?_, ?_⟩
        · rw [HP.out]
          exact HO10.out
        · exact hbw10
      · go_wp2_with fail
        go_ret
        refine ⟨_, rfl, ?_, ?_⟩
        · rw [HP.out]
          exact HO.out
        · exact hbw

end Go.Proofs.Ytapjjhdopelpjaa
