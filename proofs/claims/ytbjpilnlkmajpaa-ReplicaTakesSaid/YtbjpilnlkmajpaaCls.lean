import Derived.Test.YtbjpilnlkmajpaaSrt
import Derived.Deep.AppendLies
namespace Go.Proofs.Ytbjpilnlkmajpaa
set_option linter.unusedVariables false
set_option linter.unusedSimpArgs false
open Go.RowKit Go.Maps Go.Proofs.K

def cellsOf (m : ByteArray → Option ByteArray) (ks : List ByteArray) : List CL := ks.map fun k => ⟨k, (m k).getD ⟨#[]⟩⟩
def encInt (k : Int) : List Value := [.int .i64 k]

set_option maxHeartbeats 2000000 in
set_option maxRecDepth 100000 in
theorem Open_calls (p N M : Nat) (F : Nat → Prop) (s : RS) (w : World) (hs : IsRep w p N M F s) (hM : M ≤ 1000000000) :
    Calls Try.prog 16 #[.pointer (some ⟨p, 0, none⟩)] w fun e w' => ∃ (v : Value) (ks : List Int), e = .returned v ∧ KeysI s.opn ks ∧ ks.length ≤ M ∧ Own encInt 3 1 w' w.heap.size v ks ∧ Below w.heap.size w w' := by
  obtain ⟨bn, bo, O, h⟩ := hs
  have c3 : w.cell? ⟨p, 3, none⟩ = some (.map (some bo)) := h.blk.cell 3
  have HO := Sh.mk h.opn
  have HSM := Sh.mk h.same
  have HM := Sh.mk hM
  clear h hM
  go_enter Try.func16, Try.ntmps16
  go_wp2_with (first | (go_at_call 28; refine (keysI_calls _ _).mono ?_; rintro e w' ⟨rfl, rfl⟩) | (go_at_call 27; refine (sortedI_calls w.heap.size bo M O _ (HO.out.below (bl_alloc (Below.refl _ _) _)) (Blk.cell (Blk.new w _ [.map (some bo)]) 0) HM.out).mono ?_; rintro e w' ⟨v, ks, rfl, hk, hlen, how, hb⟩))
  go_ret
  refine ⟨v, ks, rfl, ⟨hk.up, hk.nd, fun k => by rw [hk.mem, HSM.out]⟩, hlen, how.lower (by simp), below_then (bl_alloc (Below.refl _ _) _) (by simp) hb⟩

set_option maxHeartbeats 2000000 in
set_option maxRecDepth 100000 in
theorem Cells_calls (p N M : Nat) (F : Nat → Prop) (s : RS) (w : World) (hs : IsRep w p N M F s) (hN : N ≤ 1000000000) :
    Calls Try.prog 14 #[.pointer (some ⟨p, 0, none⟩)] w fun e w' => ∃ (v : Value) (ks : List ByteArray), e = .returned v ∧ KeysS s.now ks ∧ ks.length ≤ N ∧ Own encCell 39 2 w' w.heap.size v (cellsOf s.now ks) ∧ Below w.heap.size w w' := by
  obtain ⟨bn, bo, O, h⟩ := hs
  have c2 : w.cell? ⟨p, 2, none⟩ = some (.map (some bn)) := h.blk.cell 2
  have HN := Sh.mk h.now
  have HL := Sh.mk hN
  have i0 : (Try.prog.info? 39).map (fun i => (i.zero, i.size, i.bytes)) = some (some (.agg #[.string ⟨#[]⟩, .string ⟨#[]⟩]), 2, 32) := by kernel_rfl
  obtain ⟨i0, hi0, hz0, hz1, hz2⟩ := info_parts i0
  clear h hN
  go_enter Try.func14, Try.ntmps14
  go_wp2_with (first | (go_at_call 26; refine (keysS_calls _ _).mono ?_; rintro e w' ⟨rfl, rfl⟩) | (go_at_call 25; refine (sortedS_calls w.heap.size bn N s.now _ (HN.out.below (bl_alloc (Below.refl _ _) _)) (Blk.cell (Blk.new w _ [.map (some bn)]) 0) HL.out).mono ?_; rintro e w1 ⟨v, ks, rfl, hk, hks, hlen, how, hb⟩; obtain ⟨A, c, hv, hc1, hc2, hrow⟩ := how.reads (fun _ => rfl); subst hv))
  have hsz1 : (w.alloc (.cells #[.map (some bn)] 60)).heap.size = w.heap.size + 1 := by simp
  rw [hsz1] at how hb
  have hb1 : Below w.heap.size w w1 := below_then (bl_alloc (Below.refl _ _) _) (by simp) (hsz1.symm ▸ hb)
  have hle1 := hb1.size
  have HK := Sh.mk hk
  have HKS := Sh.mk hks
  have HR := Sh.mk hrow
  have HB1 := Sh.mk hb1
  have hbl : bn < w.heap.size := HN.out.lt
  have HN1 := Sh.mk (HN.out.below hb1)
  have hc2' := below_cell hb1 c2
  have hpl := cell_lt c2
  have HLEN := Sh.mk hlen
  have hlen9 : ks.length ≤ 9223372036854775807 := by have := HL.out; omega
  clear hk hks hrow hb how hb1 c2 HN hc1 hc2 hlen
  go_loopw [3, 15] (fun v i wr => ∃ k : Nat, k ≤ ks.length ∧ i = .int .i64 k ∧ Sh (Own encCell 39 2 wr w1.heap.size v (cellsOf s.now (ks.take k))) ∧ Below w1.heap.size w1 wr) (fun _ i _ => ks.length - (intOf i).toNat)
  case atStart => exact ⟨0, Nat.zero_le _, rfl, ⟨Own.nil _ _ _ _ _⟩, Below.refl _ _⟩
  case round =>
    obtain ⟨k, hk, rfl, HO, hbw⟩ := hrel
    by_cases hlt : k < ks.length
    · obtain ⟨x, hx⟩ : ∃ x, x = ks[k] := ⟨_, rfl⟩
      obtain ⟨b, off, rfl, hc⟩ := HR.out k hlt
      rw [← hx] at hc
      have hc0 : wr.cell? ⟨b, off + k * 1, none⟩ = some (.string x) := below_cell hbw (hc 0 _ rfl)
      rw [Nat.mul_one] at hc0
      have d2 := below_cell hbw hc2'
      have hll := ((HN1.out.below hbw).look Try.underlying9 Try.underlying9 Try.underlying60 (zeroStr _) x (HKS.out x (hx ▸ List.getElem_mem hlt))).2
      have hlk : (cellsOf s.now (ks.take k)).length = k := by simp [cellsOf]; omega
      have hnx : cellsOf s.now (ks.take (k + 1)) = cellsOf s.now (ks.take k) ++ [⟨x, (s.now x).getD ⟨#[]⟩⟩] := by
        unfold cellsOf
        rw [List.take_succ_eq_append_getElem hlt, List.map_append, hx]
        rfl
      generalize (s.now x).getD ⟨#[]⟩ = val at hll hnx
      have HNX := Sh.mk hnx
      clear hx hc hnx
      have hkN : k < 1000000000 := by have := HL.out; have := HLEN.out; omega
      have ho := HO.out
      unfold Own at ho
      rw [hlk] at ho
      go_wp2_with (at_builtin; refine Sh.out ?_)
      refine ⟨?_⟩
      refine wpList_append_lies _ rfl _ _ _ (by rfl) w1.heap.size 39 i0 _ 2 32 Try.underlying22 hi0 hz0 hz1 hz2 rfl (by omega) _ k _ (by rfl) (World.ownsRow.alloc ho _) ⟨wr.heap.size, 0, none⟩ 1 1 [.string x, .string val] (by rfl) (by rfl) (World.news_of_block (cs := #[.string x, .string val]) (t := 39) (fr := (0, 0)) (heap_alloc_new wr _)) (by simp [Value.oneCell']) (by omega) (by unfold maxLen; omega) (by omega) (by have := hbw.size; simp; omega) (wr.heap.size + 1) (by simp) ?_
      intro gg cap w2 hown1 hgrow hat hlt1
      have hout : Own encCell 39 2 w2 w1.heap.size (.slice (some ⟨gg, 0, none⟩) (k + 1) cap) (cellsOf s.now (ks.take (k + 1))) := by
        rw [HNX.out]
        refine Own.append ?_
        rw [hlk]
        exact hown1
      have hown0 := HO.out
      have hc9 := Chg.trans (F := fun i => w1.heap.size ≤ i) (Chg.of_below (F := fun i => w1.heap.size ≤ i) hbw) (((Chg.refl (fun _ => False) wr).alloc (.cells #[.string x, .string val] 39)).mono (G := fun i => w1.heap.size ≤ i) (fun _ _ h => h.elim)) (fun _ _ h => h)
      have hc8 := (hc9.trans (Chg.of_grown hgrow) (fun i _ e => (hown0.lt i e.symm).1)).below (fun i hi h => by omega)
      clear hown1 hgrow hat hlt1 hown0 hc9 ho
      go_wp2_with fail
      go_roundw
      case rel => exact ⟨k + 1, by omega, by go_num, ⟨hout⟩, hc8⟩
      case measure => simp [intOf]; omega
    · obtain rfl : k = ks.length := by omega
      have hO := HO.out
      rw [List.take_length] at hO
      have hB := below_then HB1.out hle1 hbw
      clear HO hbw
      go_wp2_with fail
      go_ret
      exact ⟨_, rfl, ks, HK.out, HLEN.out, hO.lower hle1, hB⟩
end Go.Proofs.Ytbjpilnlkmajpaa
