import Derived.Test.YtapjjhdopelpjaaCmp
namespace Go.Proofs.Ytapjjhdopelpjaa
set_option linter.unusedVariables false
set_option linter.unusedSimpArgs false
open Go.RowKit Go.Maps Go.Proofs.K

def edP (done : List Int) (e f : EV) : Bool := clashF f e && (done.contains e.txn && done.contains f.txn)
def edStep (done : List Int) (e : EV) (acc : List PR) (f : EV) : List PR := if edP done e f = true then acc ++ [⟨f.txn, e.txn⟩] else acc
def edGo (l : List EV) (done : List Int) : Nat → List PR
  | 0 => []
  | k + 1 => match l[k]? with
    | some e => (l.take k).foldl (edStep done e) (edGo l done k)
    | none => edGo l done k
def edRaw (l : List EV) : List PR := edGo l (thatF l 3) l.length
def edgesF (l : List EV) : List PR := if hRightF l = true then Lib.compact (sortP (edRaw l)) else []
theorem edStep_len (done : List Int) (e : EV) (m : List EV) : ∀ acc, (m.foldl (edStep done e) acc).length ≤ acc.length + m.length := by
  induction m with
  | nil => intro acc; simp
  | cons f r ih =>
    intro acc
    rw [List.foldl_cons]
    have h1 := ih (edStep done e acc f)
    have h2 : (edStep done e acc f).length ≤ acc.length + 1 := by unfold edStep; split <;> simp
    simp only [List.length_cons]
    omega
theorem edGo_len (l : List EV) (done : List Int) : ∀ k, k ≤ l.length → (edGo l done k).length ≤ k * l.length
  | 0, _ => by simp [edGo]
  | k + 1, h => by
    have h1 := edGo_len l done k (by omega)
    rw [edGo, List.getElem?_eq_getElem (by omega)]
    have h2 := edStep_len done l[k] (l.take k) (edGo l done k)
    have h3 := List.length_take_le k l
    dsimp only
    rw [Nat.succ_mul]
    have h4 : (l.take k).length ≤ l.length := by rw [List.length_take]; omega
    omega
theorem edGo_succ (l : List EV) (done : List Int) (k : Nat) (h : k < l.length) {x : EV} (hx : x = l[k]) : edGo l done (k + 1) = (l.take k).foldl (edStep done x) (edGo l done k) := by
  rw [edGo, List.getElem?_eq_getElem h, ← hx]
theorem compact_len (l : List PR) : (Lib.compact l).length ≤ l.length := by
  unfold Lib.compact Lib.compactUpTo
  rw [List.length_map]
  exact Nat.le_trans (List.length_filter_le _ _) (by simp)
theorem edgesF_len (l : List EV) : (edgesF l).length ≤ l.length * l.length := by
  unfold edgesF
  split
  · refine Nat.le_trans (compact_len _) ?_
    unfold sortP
    rw [List.length_mergeSort]
    exact edGo_len l _ _ (Nat.le_refl _)
  · simp

/-- What holds in Edges' rounds. -/
structure EDL (w W : World) (q : Nat) (v : Value) (acc : List PR) (x : EV) : Prop where
  bx : Blk W q 53 (encEV x)
  bl : Below w.heap.size w W
  ow : Own encP 43 2 W w.heap.size v acc
section
variable {w W W1 : World} {q : Nat} {v : Value} {acc : List PR} {x : EV}
theorem EDL.x0 (h : EDL w W q v acc x) : W.cell? ⟨q, 0, none⟩ = some (.int .i64 x.txn) := h.bx.cell 0
theorem EDL.x1 (h : EDL w W q v acc x) : W.cell? ⟨q, 1, none⟩ = some (.int .i64 x.kind) := h.bx.cell 1
theorem EDL.x2 (h : EDL w W q v acc x) : W.cell? ⟨q, 2, none⟩ = some (.string x.key) := h.bx.cell 2
theorem EDL.below (h : EDL w W q v acc x) (hb : Below W.heap.size W W1) : EDL w W1 q v acc x := ⟨h.bx.below hb, below_trans h.bl hb, h.ow.below hb⟩
theorem EDL.push {v' : Value} {acc' : List PR} (h : EDL w W q v acc x) (ho : Own encP 43 2 W1 w.heap.size v' acc') (hc : Chg (fun k => some k = v.ownBlock) W W1) : EDL w W1 q v' acc' x :=
  ⟨h.bx.chg hc (fun e => own_ne h.ow h.bx (by decide) q e.symm rfl), push_below h.bl h.ow hc, ho⟩
end

set_option maxHeartbeats 8000000 in
set_option maxRecDepth 100000 in
theorem edges_calls (A : Option Addr) (c : Nat) (l : List EV) (w : World) (hr : RowOf encEV 3 w A l) (hl : l.length ≤ 1000) (hlc : l.length ≤ c) (hcm : c ≤ maxLen) :
    Calls Try.prog 8 #[.slice A l.length c] w fun e w' => ∃ v, e = .returned v ∧ Own encP 43 2 w' w.heap.size v (edgesF l) ∧ Below w.heap.size w w' := by
  have HR := Sh.mk hr
  have HRT := Sh.mk (hright_calls A c l w hr (by omega))
  have HTH := Sh.mk (fun W (h : Below w.heap.size w W) => that_calls A c l 3 W (hr.below h) (by omega))
  have hm : l.length ≤ 9223372036854775807 := by omega
  have hG : edgesF l = if hRightF l = true then Lib.compact (sortP (edGo l (thatF l 3) l.length)) else [] := rfl
  have HTL := Sh.mk (thatF_len l 3)
  generalize edgesF l = R at hG
  generalize hRightF l = rt at HRT hG
  generalize thatF l 3 = done at HTH hG HTL
  have HG := Sh.mk hG
  clear hr hG
  go_enter Try.func8, Try.ntmps8
  go_wp2_with fail
  refine HRT.out.mono ?_
  rintro e W0 ⟨rfl, hb0⟩
  have HB0 := Sh.mk hb0
  clear hb0 HRT
  cases rt
  · go_wp2_with fail
    go_ret
    refine ⟨_, rfl, ?_, HB0.out⟩
    rw [HG.out]
    exact Own.nil _ _ _ _ _
  have HG2 := Sh.mk (show R = Lib.compact (sortP (edGo l done l.length)) by rw [HG.out, if_pos rfl])
  clear HG
  go_wp2_with fail
  refine (HTH.out _ HB0.out).mono ?_
  rintro e W1 ⟨p, rfl, hS1, hb1⟩
  have HS1 := Sh.mk (hS1.tight)
  have HB1 := Sh.mk (below_trans HB0.out hb1)
  have HR1 := Sh.mk (HR.out.below HB1.out)
  have HGS := Sh.mk (HB1.out.size)
  clear hS1 hb1 HTH HB0 HR
  go_wp2_with fail
  go_loopw [4, 16] (fun out i wr => ∃ k : Nat, k ≤ l.length ∧ i = .int .i64 k ∧ Sh (Own encP 43 2 wr W1.heap.size out (edGo l done k)) ∧ Sh (Below W1.heap.size W1 wr)) (fun _ i _ => l.length - (intOf i).toNat)
  case atStart => exact ⟨0, Nat.zero_le _, rfl, ⟨Own.nil _ _ _ _ _⟩, ⟨Below.refl _ _⟩⟩
  case round =>
    obtain ⟨wo, rfl⟩ : ∃ wo, wo = wr := ⟨_, rfl⟩
    obtain ⟨k, hk, rfl, HO, HB⟩ := hrel
    by_cases hlt : k < l.length
    case neg =>
      obtain rfl : k = l.length := by omega
      have HLN := Sh.mk (show (edGo l done l.length).length ≤ 1000000000 from by
        have h1 := edGo_len l done l.length (Nat.le_refl _)
        have h2 := Nat.mul_le_mul hl hl
        omega)
      generalize edGo l done l.length = raw at HO HG2 HLN
      go_wp2_with fail
      refine (sortE_own _ HO.out HLN.out).mono ?_
      rintro e W2 ⟨rfl, ho2, hc2⟩
      have HB2 := Sh.mk (push_below HB.out HO.out hc2)
      have HO2 := Sh.mk ho2
      clear ho2 hc2 HB HO
      go_wp2_with fail
      refine (compact_own _ HO2.out (by have := HLN.out; simp only [sortP, List.length_mergeSort]; omega)).mono ?_
      rintro e W3 ⟨v3, rfl, ho3, -, hc3⟩
      have HB3 := Sh.mk (push_below HB2.out HO2.out hc3)
      go_wp2_with fail
      go_ret
      exact ⟨_, rfl, by rw [HG2.out]; exact ho3.lower HGS.out, below_trans HB1.out HB3.out⟩
    obtain ⟨x, hx⟩ : ∃ x, x = l[k] := ⟨_, rfl⟩
    obtain ⟨b, off, hAe, hc⟩ := HR1.out k hlt
    subst hAe
    rw [← hx] at hc
    have c0 : wo.cell? ⟨b, off + k * 3, none⟩ = some (.int .i64 x.txn) := below_cell HB.out (hc 0 _ rfl)
    have c1 : wo.cell? ⟨b, off + k * 3 + 1, none⟩ = some (.int .i64 x.kind) := below_cell HB.out (hc 1 _ rfl)
    have c2 : wo.cell? ⟨b, off + k * 3 + 2, none⟩ = some (.string x.key) := below_cell HB.out (hc 2 _ rfl)
    have HSU := Sh.mk (edGo_succ l done k hlt hx)
    have HLN := Sh.mk (show (edGo l done k).length ≤ 1000000 from by
      have h1 := edGo_len l done k hk
      have h2 := Nat.mul_le_mul (show k ≤ 1000 by omega) hl
      omega)
    obtain ⟨m, hmd⟩ : ∃ m, m = l.take k := ⟨_, rfl⟩
    have HML := Sh.mk (show m.length = k by rw [hmd, List.length_take]; omega)
    have hRm := HR1.out.take k
    rw [← hmd] at hRm HSU
    have HRM := Sh.mk hRm
    clear hx hc hRm hmd
    generalize edGo l done k = acc0 at HO HSU HLN
    have hkc : (k : Int) ≤ (c : Int) := by omega
    have hk0 : (0 : Int) ≤ (k : Int) := by omega
    go_wp2_with fail
    refine wp_gen (fun W => EDL W1 W wo.heap.size u4 acc0 x) ⟨Blk.new _ _ _, bl_alloc HB.out _, HO.out.alloc _⟩ ?_
    intro W2 hT
    have HT := Sh.mk hT
    clear hT c0 c1 c2 HB HO
    go_loopw [4, 25] (fun out i wr => ∃ (j : Nat) (acc : List PR), j ≤ k ∧ i = .int .i64 j ∧ Sh (acc = (m.take j).foldl (edStep done x) acc0) ∧ Sh (EDL W1 wr wo.heap.size out acc x)) (fun _ i _ => k - (intOf i).toNat)
    case atStart => exact ⟨0, acc0, Nat.zero_le _, rfl, ⟨rfl⟩, HT⟩
    case round =>
      clear HT W2
      obtain ⟨j, acc, hj, rfl, HA, HT⟩ := hrel
      by_cases hjl : j < k
      case neg =>
        obtain rfl : j = k := by omega
        have HA2 := Sh.mk (show acc = m.foldl (edStep done x) acc0 by have h := HA.out; rw [List.take_of_length_le (Nat.le_of_eq HML.out)] at h; exact h)
        go_wp2_with fail
        go_roundw
        case rel => exact ⟨j + 1, by omega, by go_num, ⟨by rw [HSU.out, ← HA2.out]; exact HT.out.ow⟩, ⟨HT.out.bl⟩⟩
        case measure => simp [intOf]; omega
      obtain ⟨y, hy⟩ : ∃ y, y = m[j]'(by have := HML.out; omega) := ⟨_, rfl⟩
      obtain ⟨b2, off2, hAe, hc⟩ := HRM.out j (by have := HML.out; omega)
      injection hAe with hAe
      injection hAe with hA1 hA2 _
      subst hA1 hA2
      rw [← hy] at hc
      have c0 : wr.cell? ⟨b, off + j * 3, none⟩ = some (.int .i64 y.txn) := below_cell HT.out.bl (hc 0 _ rfl)
      have c1 : wr.cell? ⟨b, off + j * 3 + 1, none⟩ = some (.int .i64 y.kind) := below_cell HT.out.bl (hc 1 _ rfl)
      have c2 : wr.cell? ⟨b, off + j * 3 + 2, none⟩ = some (.string y.key) := below_cell HT.out.bl (hc 2 _ rfl)
      have x0 := HT.out.x0
      have x1 := HT.out.x1
      have x2 := HT.out.x2
      have hlw := HT.out.bx.lt
      have hne : ¬ wo.heap.size = wr.heap.size := by omega
      have HFS := Sh.mk (foldl_succ (edStep done x) acc0 m j (by have := HML.out; omega) hy)
      rw [← HA.out] at HFS
      have HL2 := Sh.mk (show acc.length ≤ 1001000 from by
        have h1 := edStep_len done x (m.take j) acc0
        rw [← HA.out] at h1
        have h2 := List.length_take_le j m
        have := HLN.out
        omega)
      clear hy hc HA
      have HY0 := Sh.mk (Blk.new wr 53 (encEV y))
      go_wp2_with fail
      refine (clash_calls y x _).mono ?_
      rintro r w3 ⟨rfl, hb3⟩
      have hb3' := below_trans (bl_alloc (Below.refl _ _) (.cells #[.int .i64 y.txn, .int .i64 y.kind, .string y.key] 53)) hb3
      have HT3 := Sh.mk (HT.out.below hb3')
      have hY3 : Blk w3 wr.heap.size 53 (encEV y) := HY0.out.below hb3
      have HY3 := Sh.mk hY3
      have y0 : w3.cell? ⟨wr.heap.size, 0, none⟩ = some (.int .i64 y.txn) := hY3.cell 0
      have z0 := HT3.out.x0
      clear hb3 hb3' hY3 HY0 HT x0 x1 x2 c0 c1 c2
      generalize hq : clashF y x = q
      have HQ := Sh.mk hq
      clear hq
      cases q
      case false =>
        have HST := Sh.mk (show edStep done x acc y = acc by unfold edStep edP; rw [HQ.out]; rfl)
        go_wp2_with fail
        go_roundw
        case rel => exact ⟨j + 1, acc, by omega, by go_num, ⟨by rw [HFS.out, HST.out]⟩, HT3⟩
        case measure => simp [intOf]; omega
      go_wp2_with fail
      refine (SHas_calls p _ done (some ⟨w3.heap.size, 0, none⟩) 2 [x.txn, y.txn] _ (HS1.out.below (bl_alloc HT3.out.bl _)) (Blk.rows (enc := encInt) (l := [x.txn, y.txn]) (fun _ => rfl) (by exact Blk.new w3 _ _)) (by have := HTL.out; omega) (by simp)).mono ?_
      rintro r w4 ⟨rfl, hb4⟩
      have hb4' := below_trans (bl_alloc (Below.refl _ _) (.cells #[.int .i64 x.txn, .int .i64 y.txn] 3)) hb4
      have HT4 := Sh.mk (HT3.out.below hb4')
      have hY4 := HY3.out.below hb4'
      have v0 : w4.cell? ⟨wr.heap.size, 0, none⟩ = some (.int .i64 y.txn) := hY4.cell 0
      have s0 := HT4.out.x0
      clear hb4 hb4' hY4 HT3 HY3 y0 z0
      rw [show [x.txn, y.txn].all done.contains = (done.contains x.txn && done.contains y.txn) by simp]
      generalize hq : (done.contains x.txn && done.contains y.txn) = q
      have HQ2 := Sh.mk hq
      clear hq
      cases q
      case false =>
        have HST := Sh.mk (show edStep done x acc y = acc by unfold edStep edP; rw [HQ.out, HQ2.out]; rfl)
        go_wp2_with fail
        go_roundw
        case rel => exact ⟨j + 1, acc, by omega, by go_num, ⟨by rw [HFS.out, HST.out]⟩, HT4⟩
        case measure => simp [intOf]; omega
      have HST := Sh.mk (show edStep done x acc y = acc ++ [⟨y.txn, x.txn⟩] by unfold edStep edP; rw [HQ.out, HQ2.out]; rfl)
      go_wp2_with (at_builtin; refine Sh.out ?_)
      refine ⟨?_⟩
      refine wpl_push E_edge rfl _ _ rfl W1.heap.size _ acc (⟨y.txn, x.txn⟩ : PR) w4.heap.size rfl rfl (HT4.out.ow.alloc _) (by exact Blk.new w4 _ _) (by have := HL2.out; omega) (by have := HL2.out; unfold maxLen; omega) (by have := HT4.out.bl.size; simp; omega) ?_
      intro v10 w10 ho hch _
      have HT10 := Sh.mk ((HT4.out.below (bl_alloc (Below.refl _ _) _)).push ho hch)
      clear ho hch HT4 v0 s0
      go_wp2_with fail
      go_roundw
      case rel => exact ⟨j + 1, acc ++ [⟨y.txn, x.txn⟩], by omega, by go_num, ⟨by rw [HFS.out, HST.out]⟩, HT10⟩
      case measure => simp [intOf]; omega
end Go.Proofs.Ytapjjhdopelpjaa
