import Derived.Test.YtbjpilnlkmajpaaTk
import Derived.Laws.Rows
namespace Go.Proofs.Ytbjpilnlkmajpaa
set_option linter.unusedVariables false
set_option linter.unusedSimpArgs false
open Go.RowKit Go.Maps Go.Proofs.K

structure CL where
  key : ByteArray
  val : ByteArray
def encCell (c : CL) : List Value := [.string c.key, .string c.val]
def newF (l : List CL) : ByteArray → Option ByteArray := l.foldl (fun m c => updS m c.key (some c.val)) fun _ => none
theorem newF_succ (l : List CL) (k : Nat) (h : k < l.length) {x : CL} (hx : x = l[k]) : newF (l.take (k + 1)) = updS (newF (l.take k)) x.key (some x.val) := by
  unfold newF
  rw [List.take_succ_eq_append_getElem h, List.foldl_append, hx]
  rfl
def newS (l : List CL) : RS := ⟨0, -1, newF l, fun _ => none⟩

set_option maxHeartbeats 2000000 in
set_option maxRecDepth 100000 in
theorem New_calls (A : Option Addr) (c : Nat) (l : List CL) (w : World) (hr : RowOf encCell 2 w A l) (hks : ∀ x ∈ l, x.key.size ≤ maxLen ∧ x.val.size ≤ maxLen) (hl : l.length ≤ 1000000000) :
    Calls Try.prog 8 #[.slice A l.length c] w fun e w' => ∃ p, e = .returned (.pointer (some ⟨p, 0, none⟩)) ∧ w.heap.size ≤ p ∧ IsRep w' p l.length 0 (fun k => w.heap.size ≤ k ∧ k < w'.heap.size) (newS l) ∧ Below w.heap.size w w' := by
  have hlen : l.length ≤ 9223372036854775807 := by omega
  have HR := Sh.mk hr
  have HK := Sh.mk hks
  have HL := Sh.mk hl
  clear hr hks hl
  have hmm := @run_makeMap Try.prog
  go_enter Try.func8, Try.ntmps8
  go_wp2_with fail
  go_loopw [13] (fun i wr => ∃ k : Nat, k ≤ l.length ∧ i = .int .i64 k ∧ Sh (Blk wr (w.heap.size + 2) 63 [.int .i64 0, .int .i64 (-1), .map (some w.heap.size), .map (some (w.heap.size + 1))] ∧ MapSS Try.prog 9 9 wr w.heap.size k (newF (l.take k)) ∧ MapIV Try.prog 3 wr (w.heap.size + 1) 0 (fun _ => none) ∧ Below w.heap.size w wr)) (fun i _ => l.length - (intOf i).toNat)
  case atStart =>
    refine ⟨0, Nat.zero_le _, rfl, ⟨?_, ?_, ?_, ?_⟩⟩
    · exact Blk.new' (by simp)
    · exact ((MapSS.made Try.prog 9 9 w).below (bl_alloc (Below.refl _ _) _)).below (bl_alloc (Below.refl _ _) _)
    · have h := MapIV.made Try.prog 3 (w.alloc (.map #[] 0))
      rw [show (w.alloc (.map #[] 0)).heap.size = w.heap.size + 1 from by simp] at h
      exact h.below (bl_alloc (Below.refl _ _) _)
    · exact bl_alloc (bl_alloc (bl_alloc (Below.refl _ _) _) _) _
  case round =>
    obtain ⟨k, hk, rfl, HI⟩ := hrel
    by_cases hlt : k < l.length
    · obtain ⟨x, hx⟩ : ∃ x, x = l[k] := ⟨_, rfl⟩
      obtain ⟨b, off, rfl, hc⟩ := HR.out k hlt
      rw [← hx] at hc
      have hc0 : wr.cell? ⟨b, off + k * 2, none⟩ = some (.string x.key) := below_cell HI.out.2.2.2 (hc 0 _ rfl)
      have hc1 : wr.cell? ⟨b, off + k * 2 + 1, none⟩ = some (.string x.val) := below_cell HI.out.2.2.2 (hc 1 _ rfl)
      have HX := Sh.mk hx
      have HKX := Sh.mk (HK.out x (hx ▸ List.getElem_mem hlt))
      have hlm : k < maxLen := by have := HL.out; unfold maxLen; omega
      clear hx hc
      go_wp2_with fail
      refine wp_gen (fun W => Blk W wr.heap.size 39 [.string x.key, .string x.val] ∧ Chg (fun _ => False) wr W) ⟨Blk.new' rfl, (Chg.refl _ _).alloc _⟩ ?_
      rintro W ⟨hx, hcW⟩
      have d1 : W.cell? ⟨w.heap.size + 2, 2, none⟩ = some (.map (some w.heap.size)) := (HI.out.1.chg hcW (fun h => h)).cell 2
      have e0 : W.cell? ⟨wr.heap.size, 0, none⟩ = some (.string x.key) := hx.cell 0
      have e1 : W.cell? ⟨wr.heap.size, 1, none⟩ = some (.string x.val) := hx.cell 1
      go_still_tail 8, (by kernel_rfl)
      change wpList _ _ _ _ _ W.drew
      have hM1 := (HI.out.2.1.chg hcW (fun h => h)).chg (Chg.refl (fun _ => False) W).drew (fun h => h)
      go_wp2_with (at_mapUpdate; refine wpl_put_SS _ rfl _ _ _ 60 rfl Try.underlying9 Try.underlying9 Try.underlying60 hM1 hlm x.key x.val HKX.out.1 HKX.out.2 rfl rfl rfl ?_; intro w2 hM5 hc5)
      have hc6 : Chg (fun k => k = w.heap.size) wr w2 := Chg.trans (w1 := W.drew) (F := fun k => k = w.heap.size) (hcW.mono (G := fun k => k = w.heap.size) (fun _ _ h => h.elim)).drew hc5 (fun _ _ h => h)
      have hMS := newF_succ l k hlt HX.out
      go_roundw
      case rel =>
        refine ⟨k + 1, by omega, by go_num, ⟨HI.out.1.chg hc6 (by omega), hMS ▸ hM5, HI.out.2.2.1.chg hc6 (by omega), ?_⟩⟩
        have hb := HI.out.2.2.2
        exact ((Chg.of_below (F := fun k => k = w.heap.size) hb).trans hc6 (fun _ _ h => h)).below (fun k hk e => by omega)
      case measure => simp [intOf]; omega
    · obtain rfl : k = l.length := by omega
      go_wp2_with fail
      have h := HI.out
      rw [List.take_length] at h
      obtain ⟨h1, h2, h3, h4⟩ := h
      go_ret
      have hl1 := h1.lt
      refine ⟨w.heap.size + 2, rfl, by omega, ⟨w.heap.size, w.heap.size + 1, fun _ => none, h1, h2, h3, ⟨by omega, by omega⟩, ⟨by omega, by omega⟩, ⟨by omega, by omega⟩, by omega, by omega, by omega, fun _ => rfl, ?_, ?_⟩, h4⟩
      · intro id rs v h; cases h
      · intro i j v u k _ h; cases h

set_option maxHeartbeats 1000000 in
theorem Place_calls (p N M : Nat) (F : Nat → Prop) (s : RS) (w : World) (hs : IsRep w p N M F s) :
    Calls Try.prog 12 #[.pointer (some ⟨p, 0, none⟩)] w fun e w' => e = .returned (.tuple #[.int .i64 s.gsn, .int .i64 s.str]) ∧ Below w.heap.size w w' := by
  obtain ⟨bn, bo, O, h⟩ := hs
  have c0 : w.cell? ⟨p, 0, none⟩ = some (.int .i64 s.gsn) := h.blk.cell 0
  have c1 : w.cell? ⟨p, 1, none⟩ = some (.int .i64 s.str) := h.blk.cell 1
  clear h
  go_enter Try.func12, Try.ntmps12
  go_wp2_with fail
  go_quiet (fail)
  go_wp2_with fail
  go_ret2
  exact ⟨rfl, bl_drewN (Below.refl _ _) _⟩

set_option maxHeartbeats 1000000 in
set_option maxRecDepth 100000 in
theorem Get_calls (p N M : Nat) (F : Nat → Prop) (s : RS) (key : ByteArray) (w : World) (hs : IsRep w p N M F s) (hk : key.size ≤ maxLen) :
    Calls Try.prog 17 #[.pointer (some ⟨p, 0, none⟩), .string key] w fun e w' => e = .returned (.agg #[.bool (s.now key).isSome, .string ((s.now key).getD ⟨#[]⟩)]) ∧ Below w.heap.size w w' := by
  obtain ⟨bn, bo, O, h⟩ := hs
  have c2 : w.cell? ⟨p, 2, none⟩ = some (.map (some bn)) := h.blk.cell 2
  have hpl := h.blk.lt
  have hl : ∀ o, (Instr.lookup 60 (.map (some bn)) (.string key) true).run Try.prog (w.alloc o) = .ok (.tuple #[.string ((s.now key).getD ⟨#[]⟩), .bool (s.now key).isSome]) (w.alloc o) := fun o =>
    ((h.now.below (bl_alloc (Below.refl _ _) o)).look Try.underlying9 Try.underlying9 Try.underlying60 (zeroStr _) key hk).1
  clear h
  go_enter Try.func17, Try.ntmps17
  go_wp2_with fail
  refine bodyPost_ret (results_cell_row rfl _ _ w.heap.size 29 _ (0, 0) _ rfl (heap_alloc_new _ _) Try.underlying29 rfl (by kernel_rfl)) rfl ?_
  exact ⟨rfl, bl_alloc (Below.refl _ _) _⟩
end Go.Proofs.Ytbjpilnlkmajpaa
