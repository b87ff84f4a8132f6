import Derived.Test.YtapjjhdopelpjaaHis3
namespace Go.Proofs.Ytapjjhdopelpjaa
set_option linter.unusedVariables false
set_option linter.unusedSimpArgs false
open Go.RowKit Go.Maps Go.Proofs.K

def placeF (l : List EV) (t : Int) : Int := idxF (fun x => decide ((⟨t, 3, ⟨#[]⟩⟩ : EV) = x)) l
set_option maxHeartbeats 400000 in
theorem place_calls (A : Option Addr) (c : Nat) (l : List EV) (t : Int) (w : World) (hr : RowOf encEV 3 w A l) (hl : l.length ≤ 1000000) :
    Calls Try.prog 40 #[.slice A l.length c, .int .i64 t] w fun e w' => e = .returned (.int .i64 (placeF l t)) ∧ Below w.heap.size w w' := by
  have H := Sh.mk (indexEv_calls A c l ⟨t, 3, ⟨#[]⟩⟩ w hr hl)
  unfold placeF
  generalize idxF _ l = r at H
  clear hr
  go_enter Try.func40, Try.ntmps40
  go_wp2_with fail
  refine H.out.mono ?_
  rintro e w1 ⟨rfl, hb⟩
  go_wp2_with fail
  go_ret
  exact ⟨rfl, hb⟩

def recP (l : List EV) (x : PR) : Bool := decide (0 ≤ placeF l x.a) && (decide (placeF l x.b < 0) || decide (placeF l x.a < placeF l x.b))
/-- What holds in the closure. -/
structure RCL (w W : World) (x : PR) : Prop where
  bx : Blk W w.heap.size 47 [.int .i64 x.a, .int .i64 x.b]
  bl : Below w.heap.size w W
theorem RCL.x0 {w W : World} {x : PR} (h : RCL w W x) : W.cell? ⟨w.heap.size, 0, none⟩ = some (.int .i64 x.a) := h.bx.cell 0
theorem RCL.x1 {w W : World} {x : PR} (h : RCL w W x) : W.cell? ⟨w.heap.size, 1, none⟩ = some (.int .i64 x.b) := h.bx.cell 1
theorem RCL.below {w W W1 : World} {x : PR} (h : RCL w W x) (hb : Below W.heap.size W W1) : RCL w W1 x := ⟨h.bx.below hb, below_trans h.bl hb⟩

set_option maxHeartbeats 2000000 in
set_option maxRecDepth 100000 in
theorem rec1_calls (A : Option Addr) (c : Nat) (l : List EV) (B : Nat) (w0 : World) (hB : w0.cell? ⟨B, 0, none⟩ = some (.slice A l.length c)) (hr : RowOf encEV 3 w0 A l) (hl : l.length ≤ 1000000) :
    PredB Try.prog 39 #[.pointer (some ⟨B, 0, none⟩)] aggP (recP l) w0 := fun w x hb0 => by
  show Calls Try.prog 39 #[.agg #[.int .i64 x.a, .int .i64 x.b], .pointer (some ⟨B, 0, none⟩)] w fun e w' => e = .returned (.bool (recP l x)) ∧ Below w.heap.size w w'
  have hBw := below_cell hb0 hB
  have HBW := Sh.mk hBw
  have HP := Sh.mk (fun W t (h : Below w.heap.size w W) => place_calls A c l t W ((hr.below hb0).below h) hl)
  have HPa := Sh.mk (fun W h => HP.out W x.a h)
  have HPb := Sh.mk (fun W h => HP.out W x.b h)
  clear HP hB hBw hr hb0
  unfold recP
  generalize placeF l x.a = ra at HPa
  generalize placeF l x.b = rb at HPb
  go_enter Try.func39, Try.ntmps39
  go_wp2_with fail
  refine wp_gen (fun W => RCL w W x) ⟨Blk.new _ _ _, bl_alloc (Below.refl _ _) _⟩ ?_
  intro W0 hT
  have HT := Sh.mk hT
  clear hT
  refine wp_region_noPanic ?_
  refine wpN_begin 99 (fun W => RCL w W x) (by kernel_rfl) ?_
  have hS : (fun W => RCL w W x) W0.drew := HT.out.below (bl_drew (Below.refl _ _))
  refine wpN_take (i := 0) (v := ?_) rfl rfl (by kernel_rfl) (by kernel_rfl) (by kernel_rfl) (by kernel_rfl) (fun _ _ _ h => h) (Or.inl ⟨by kernel_rfl, ?hy⟩) hS ?_
  case hy =>
    intro W hW
    have y := below_cell hW.bl HBW.out
    go_simp
    try with_reducible rfl
  (try simp only [Act.put]); (try simp only [List.setIfInBounds_toArray]); (try simp only [List.set_cons_succ]); (try simp only [List.set_cons_zero])
  refine wpN_take (i := 1) (v := ?_) rfl rfl (by kernel_rfl) (by kernel_rfl) (by kernel_rfl) (by kernel_rfl) (fun _ _ _ h => h) (Or.inl ⟨by kernel_rfl, ?hy⟩) hS ?_
  case hy =>
    intro W hW
    skip
    go_simp
    try with_reducible rfl
  (try simp only [Act.put]); (try simp only [List.setIfInBounds_toArray]); (try simp only [List.set_cons_succ]); (try simp only [List.set_cons_zero])
  refine wpN_take (i := 2) (v := ?_) rfl rfl (by kernel_rfl) (by kernel_rfl) (by kernel_rfl) (by kernel_rfl) (fun _ _ _ h => h) (Or.inl ⟨by kernel_rfl, ?hy⟩) hS ?_
  case hy =>
    intro W hW
    have y := hW.x0
    go_simp
    try with_reducible rfl
  (try simp only [Act.put]); (try simp only [List.setIfInBounds_toArray]); (try simp only [List.set_cons_succ]); (try simp only [List.set_cons_zero])
  refine wpN_take (i := 4) (v := ?_) rfl rfl (by kernel_rfl) (by kernel_rfl) (by kernel_rfl) (by kernel_rfl) (fun _ _ _ h => h) (Or.inl ⟨by kernel_rfl, ?hy⟩) hS ?_
  case hy =>
    intro W hW
    have y := below_cell hW.bl HBW.out
    go_simp
    try with_reducible rfl
  (try simp only [Act.put]); (try simp only [List.setIfInBounds_toArray]); (try simp only [List.set_cons_succ]); (try simp only [List.set_cons_zero])
  refine wpN_take (i := 5) (v := ?_) rfl rfl (by kernel_rfl) (by kernel_rfl) (by kernel_rfl) (by kernel_rfl) (fun _ _ _ h => h) (Or.inl ⟨by kernel_rfl, ?hy⟩) hS ?_
  case hy =>
    intro W hW
    skip
    go_simp
    try with_reducible rfl
  (try simp only [Act.put]); (try simp only [List.setIfInBounds_toArray]); (try simp only [List.set_cons_succ]); (try simp only [List.set_cons_zero])
  refine wpN_take (i := 6) (v := ?_) rfl rfl (by kernel_rfl) (by kernel_rfl) (by kernel_rfl) (by kernel_rfl) (fun _ _ _ h => h) (Or.inl ⟨by kernel_rfl, ?hy⟩) hS ?_
  case hy =>
    intro W hW
    have y := hW.x1
    go_simp
    try with_reducible rfl
  (try simp only [Act.put]); (try simp only [List.setIfInBounds_toArray]); (try simp only [List.set_cons_succ]); (try simp only [List.set_cons_zero])
  refine wpN_only (i := 3) rfl (by kernel_rfl) (fun K hK => ?_)
  go_simp
  go_at_call 40
  refine (HPa.out _ hS.bl).mono ?_
  rintro e w' ⟨rfl, hb2⟩
  refine goto hK (hS.below hb2) ?_
  clear hS hK K
  intro hS
  (try simp only [Act.put]); (try simp only [List.setIfInBounds_toArray]); (try simp only [List.set_cons_succ]); (try simp only [List.set_cons_zero])
  refine wpN_only (i := 7) rfl (by kernel_rfl) (fun K hK => ?_)
  go_simp
  go_at_call 40
  refine (HPb.out _ hS.bl).mono ?_
  rintro e w' ⟨rfl, hb2⟩
  refine goto hK (hS.below hb2) ?_
  clear hS hK K
  intro hS
  (try simp only [Act.put]); (try simp only [List.setIfInBounds_toArray]); (try simp only [List.set_cons_succ]); (try simp only [List.set_cons_zero])
  refine wpN_only (i := 8) rfl (by kernel_rfl) (fun K hK => ?_)
  go_simp
  refine goto hK hS ?_
  clear hS hK K
  intro hS
  (try simp only [Act.put]); (try simp only [List.setIfInBounds_toArray]); (try simp only [List.set_cons_succ]); (try simp only [List.set_cons_zero])
  refine wpN_only (i := 9) rfl (by kernel_rfl) (fun K hK => ?_)
  go_simp
  refine goto hK hS ?_
  clear hS hK K
  intro hS
  (try simp only [Act.put]); (try simp only [List.setIfInBounds_toArray]); (try simp only [List.set_cons_succ]); (try simp only [List.set_cons_zero])
  refine wpN_done (by kernel_rfl) ?_ _
  refine NoPanic.normal ?_
  have hb := hS.bl
  clear hS HPa HPb HT HBW
  by_cases h1 : 0 ≤ ra
  case neg =>
    have d1 : decide (0 ≤ ra) = false := by simp; omega
    clear h1
    go_wp2_with fail
    go_ret
    exact ⟨by rw [d1]; rfl, hb⟩
  have d1 : decide (0 ≤ ra) = true := by simp [h1]
  clear h1
  by_cases h2 : rb < 0
  · have d2 : decide (rb < 0) = true := by simp [h2]
    clear h2
    go_wp2_with fail
    go_ret
    exact ⟨by rw [d1, d2]; rfl, hb⟩
  have d2 : decide (rb < 0) = false := by simp; omega
  clear h2
  go_wp2_with fail
  go_ret
  exact ⟨by rw [d1, d2]; rfl, hb⟩


def readG (e : EV) : Option Int → List PR
  | some t => if t = e.txn then [] else [⟨e.txn, t⟩]
  | none => []
theorem readG_len (e : EV) (g : Option Int) : (readG e g).length ≤ 1 := by
  unfold readG
  split
  · split <;> simp
  · simp
def readOne (l : List EV) (k : Nat) (e : EV) : List PR := if e.kind = 1 then readG e (writerF (l.take k) e.key) else []
def readsGo (l : List EV) : Nat → List PR
  | 0 => []
  | k + 1 => match l[k]? with
    | some e => readsGo l k ++ readOne l k e
    | none => readsGo l k
def readsF (l : List EV) : List PR := if hRightF l = true then readsGo l l.length else []
theorem readsGo_len (l : List EV) : ∀ k, (readsGo l k).length ≤ k
  | 0 => by simp [readsGo]
  | k + 1 => by
    have := readsGo_len l k
    unfold readsGo
    split
    · have : ∀ e, (readOne l k e).length ≤ 1 := fun e => by unfold readOne; split; exact readG_len _ _; simp
      rw [List.length_append]
      rename_i e _
      have := this e
      omega
    · omega
theorem readsGo_succ (l : List EV) (k : Nat) (h : k < l.length) {x : EV} (hx : x = l[k]) : readsGo l (k + 1) = readsGo l k ++ readOne l k x := by
  rw [readsGo, List.getElem?_eq_getElem h, ← hx]
/-- What holds in Reads' round. -/
structure RDL (w W : World) (p : Nat) (v : Value) (acc : List PR) (e : EV) : Prop where
  bx : Blk W p 53 (encEV e)
  bl : Below w.heap.size w W
  ow : Own encP 47 2 W w.heap.size v acc
section
variable {w W W1 : World} {p : Nat} {v : Value} {acc : List PR} {e : EV}
theorem RDL.x0 (h : RDL w W p v acc e) : W.cell? ⟨p, 0, none⟩ = some (.int .i64 e.txn) := h.bx.cell 0
theorem RDL.x1 (h : RDL w W p v acc e) : W.cell? ⟨p, 1, none⟩ = some (.int .i64 e.kind) := h.bx.cell 1
theorem RDL.x2 (h : RDL w W p v acc e) : W.cell? ⟨p, 2, none⟩ = some (.string e.key) := h.bx.cell 2
theorem RDL.below (h : RDL w W p v acc e) (hb : Below W.heap.size W W1) : RDL w W1 p v acc e := ⟨h.bx.below hb, below_trans h.bl hb, h.ow.below hb⟩
end

set_option maxHeartbeats 8000000 in
set_option maxRecDepth 100000 in
theorem reads_calls (A : Option Addr) (c : Nat) (l : List EV) (w : World) (hr : RowOf encEV 3 w A l) (hl : l.length ≤ 1000000) (hlc : l.length ≤ c) (hcm : c ≤ maxLen) :
    Calls Try.prog 9 #[.slice A l.length c] w fun e w' => ∃ v, e = .returned v ∧ Own encP 47 2 w' w.heap.size v (readsF l) ∧ Below w.heap.size w w' := by
  have HR := Sh.mk hr
  have HRT := Sh.mk (hright_calls A c l w hr hl)
  have HWR := Sh.mk (fun (k : Nat) (hk : k ≤ l.length) key W (h : Below w.heap.size w W) => (show Calls Try.prog 28 #[.slice A k c, .string key] W _ by
    have := writer_calls A c (l.take k) key W ((hr.take k).below h) (by rw [List.length_take]; omega)
    rwa [List.length_take_of_le hk] at this))
  have hm : l.length ≤ 9223372036854775807 := by omega
  have hG : readsF l = if hRightF l = true then readsGo l l.length else [] := rfl
  generalize readsF l = R at hG
  generalize hRightF l = rt at HRT hG
  have HG := Sh.mk hG
  clear hr hG
  go_enter Try.func9, Try.ntmps9
  go_wp2_with fail
  refine HRT.out.mono ?_
  rintro e W0 ⟨rfl, hb0⟩
  have HB0 := Sh.mk hb0
  clear hb0 HRT
  cases rt
  · go_wp2_with fail
    go_ret
    refine ⟨_, rfl, ?_, HB0.out⟩
    rw [HG.out]
    exact Own.nil _ _ _ _ _
  have HG2 := Sh.mk (show R = readsGo l l.length by rw [HG.out, if_pos rfl])
  clear HG
  go_wp2_with fail
  go_loopw [3, 13] (fun out i wr => ∃ k : Nat, k ≤ l.length ∧ i = .int .i64 k ∧ Sh (Own encP 47 2 wr w.heap.size out (readsGo l k)) ∧ Sh (Below w.heap.size w wr)) (fun _ i _ => l.length - (intOf i).toNat)
  case atStart => exact ⟨0, Nat.zero_le _, rfl, ⟨Own.nil _ _ _ _ _⟩, HB0⟩
  case round =>
    clear HB0 W0
    obtain ⟨k, hk, rfl, HO, HB⟩ := hrel
    by_cases hlt : k < l.length
    · obtain ⟨x, hx⟩ : ∃ x, x = l[k] := ⟨_, rfl⟩
      obtain ⟨b, off, hAe, hc⟩ := HR.out k hlt
      subst hAe
      rw [← hx] at hc
      have c0 : wr.cell? ⟨b, off + k * 3, none⟩ = some (.int .i64 x.txn) := below_cell HB.out (hc 0 _ rfl)
      have c1 : wr.cell? ⟨b, off + k * 3 + 1, none⟩ = some (.int .i64 x.kind) := below_cell HB.out (hc 1 _ rfl)
      have c2 : wr.cell? ⟨b, off + k * 3 + 2, none⟩ = some (.string x.key) := below_cell HB.out (hc 2 _ rfl)
      have HSU := Sh.mk (readsGo_succ l k hlt hx)
      have HLN := Sh.mk (readsGo_len l k)
      unfold readOne at HSU
      replace HWR := Sh.mk (fun W h => HWR.out k hk x.key W h)
      clear hx hc
      generalize readsGo l k = acc at HO HSU HLN
      generalize writerF (l.take k) x.key = g at HSU HWR
      by_cases h1 : x.kind = 1
      case neg =>
        have d1 : (x.kind != 1) = true := by simp [h1]
        have HSU2 := Sh.mk (show readsGo l (k + 1) = acc by rw [HSU.out, if_neg h1]; simp)
        clear h1 HSU
        go_wp2_with fail
        go_roundw
        case rel => exact ⟨k + 1, by omega, by go_num, ⟨by rw [HSU2.out]; exact HO.out.alloc _⟩, ⟨bl_alloc HB.out _⟩⟩
        case measure => simp [intOf]; omega
      have d1 : (x.kind != 1) = false := by simp [h1]
      have HSU2 := Sh.mk (show readsGo l (k + 1) = acc ++ readG x g by rw [HSU.out, if_pos h1])
      clear h1 HSU
      go_wp2_with fail
      refine wp_gen (fun W => RDL w W wr.heap.size u3 acc x ∧ Below wr.heap.size wr W) ⟨⟨Blk.new _ _ _, bl_alloc HB.out _, HO.out.alloc _⟩, bl_alloc (Below.refl _ _) _⟩ ?_
      rintro W1 ⟨hT, hb1⟩
      have HT := Sh.mk hT
      have hkc : (k : Int) ≤ (c : Int) := by omega
      have hk0 : (0 : Int) ≤ (k : Int) := by omega
      clear hT hb1 c0 c1 c2 HO HB d1
      refine wp_region_noPanic ?_
      refine wpN_begin 99 (fun W => RDL w W wr.heap.size u3 acc x) (by kernel_rfl) ?_
      have hS : (fun W => RDL w W wr.heap.size u3 acc x) W1.drew := HT.out.below (bl_drew (Below.refl _ _))
      refine wpN_take (i := 0) (v := ?_) rfl rfl (by kernel_rfl) (by kernel_rfl) (by kernel_rfl) (by kernel_rfl) (fun _ _ _ h => h) (Or.inl ⟨by kernel_rfl, ?hy⟩) hS ?_
      case hy =>
        intro W hW
        skip
        go_simp
        try with_reducible rfl
      (try simp only [Act.put]); (try simp only [List.setIfInBounds_toArray]); (try simp only [List.set_cons_succ]); (try simp only [List.set_cons_zero])
      refine wpN_take (i := 1) (v := ?_) rfl rfl (by kernel_rfl) (by kernel_rfl) (by kernel_rfl) (by kernel_rfl) (fun _ _ _ h => h) (Or.inl ⟨by kernel_rfl, ?hy⟩) hS ?_
      case hy =>
        intro W hW
        skip
        go_simp
        try with_reducible rfl
      (try simp only [Act.put]); (try simp only [List.setIfInBounds_toArray]); (try simp only [List.set_cons_succ]); (try simp only [List.set_cons_zero])
      refine wpN_take (i := 2) (v := ?_) rfl rfl (by kernel_rfl) (by kernel_rfl) (by kernel_rfl) (by kernel_rfl) (fun _ _ _ h => h) (Or.inl ⟨by kernel_rfl, ?hy⟩) hS ?_
      case hy =>
        intro W hW
        skip
        go_simp
        try with_reducible rfl
      (try simp only [Act.put]); (try simp only [List.setIfInBounds_toArray]); (try simp only [List.set_cons_succ]); (try simp only [List.set_cons_zero])
      refine wpN_take (i := 3) (v := ?_) rfl rfl (by kernel_rfl) (by kernel_rfl) (by kernel_rfl) (by kernel_rfl) (fun _ _ _ h => h) (Or.inl ⟨by kernel_rfl, ?hy⟩) hS ?_
      case hy =>
        intro W hW
        skip
        go_simp
        try with_reducible rfl
      (try simp only [Act.put]); (try simp only [List.setIfInBounds_toArray]); (try simp only [List.set_cons_succ]); (try simp only [List.set_cons_zero])
      refine wpN_take (i := 4) (v := ?_) rfl rfl (by kernel_rfl) (by kernel_rfl) (by kernel_rfl) (by kernel_rfl) (fun _ _ _ h => h) (Or.inl ⟨by kernel_rfl, ?hy⟩) hS ?_
      case hy =>
        intro W hW
        have y := hW.x2
        go_simp
        try with_reducible rfl
      (try simp only [Act.put]); (try simp only [List.setIfInBounds_toArray]); (try simp only [List.set_cons_succ]); (try simp only [List.set_cons_zero])
      refine wpN_only (i := 5) rfl (by kernel_rfl) (fun K hK => ?_)
      go_simp
      go_at_call 28
      refine (HWR.out _ hS.bl).mono ?_
      rintro e w' ⟨rfl, hb2⟩
      refine goto hK (hS.below hb2) ?_
      clear hS hK K
      intro hS
      (try simp only [Act.put]); (try simp only [List.setIfInBounds_toArray]); (try simp only [List.set_cons_succ]); (try simp only [List.set_cons_zero])
      refine wpN_only (i := 6) rfl (by kernel_rfl) (fun K hK => ?_)
      go_simp
      refine goto hK hS ?_
      clear hS hK K
      intro hS
      (try simp only [Act.put]); (try simp only [List.setIfInBounds_toArray]); (try simp only [List.set_cons_succ]); (try simp only [List.set_cons_zero])
      refine wpN_take (i := 7) (v := ?_) rfl rfl (by kernel_rfl) (by kernel_rfl) (by kernel_rfl) (by kernel_rfl) (fun _ _ _ h => h) (Or.inl ⟨by kernel_rfl, ?hy⟩) hS ?_
      case hy =>
        intro W hW
        skip
        go_simp
        try with_reducible rfl
      (try simp only [Act.put]); (try simp only [List.setIfInBounds_toArray]); (try simp only [List.set_cons_succ]); (try simp only [List.set_cons_zero])
      refine wpN_take (i := 8) (v := ?_) rfl rfl (by kernel_rfl) (by kernel_rfl) (by kernel_rfl) (by kernel_rfl) (fun _ _ _ h => h) (Or.inl ⟨by kernel_rfl, ?hy⟩) hS ?_
      case hy =>
        intro W hW
        skip
        go_simp
        try with_reducible rfl
      (try simp only [Act.put]); (try simp only [List.setIfInBounds_toArray]); (try simp only [List.set_cons_succ]); (try simp only [List.set_cons_zero])
      refine wpN_only (i := 9) rfl (by kernel_rfl) (fun K hK => ?_)
      go_simp
      refine goto hK hS ?_
      clear hS hK K
      intro hS
      (try simp only [Act.put]); (try simp only [List.setIfInBounds_toArray]); (try simp only [List.set_cons_succ]); (try simp only [List.set_cons_zero])
      refine wpN_only (i := 10) rfl (by kernel_rfl) (fun K hK => ?_)
      go_simp
      refine goto hK hS ?_
      clear hS hK K
      intro hS
      (try simp only [Act.put]); (try simp only [List.setIfInBounds_toArray]); (try simp only [List.set_cons_succ]); (try simp only [List.set_cons_zero])
      refine wpN_done (by kernel_rfl) ?_ _
      refine NoPanic.normal ?_
      refine then_gen (fun W => RDL w W wr.heap.size u3 acc x) hS ?_
      clear hS HT
      intro W2 hS
      have HT := Sh.mk hS
      clear hS HWR
      cases g with
      | none =>
        go_wp2_with fail
        go_roundw
        case rel => exact ⟨k + 1, by omega, by go_num, ⟨by rw [HSU2.out]; simpa [readG] using HT.out.ow⟩, ⟨HT.out.bl⟩⟩
        case measure => simp [intOf]; omega
      | some t =>
        have x0 := HT.out.x0
        by_cases h2 : t = x.txn
        · have d2 : (t != x.txn) = false := by simp [h2]
          have HSU3 := Sh.mk (show readsGo l (k + 1) = acc by rw [HSU2.out]; simp [readG, h2])
          clear h2 HSU2
          go_wp2_with fail
          go_roundw
          case rel => exact ⟨k + 1, by omega, by go_num, ⟨by rw [HSU3.out]; exact HT.out.ow⟩, ⟨HT.out.bl⟩⟩
          case measure => simp [intOf]; omega
        · have d2 : (t != x.txn) = true := by simp [h2]
          have HSU3 := Sh.mk (show readsGo l (k + 1) = acc ++ [⟨x.txn, t⟩] by rw [HSU2.out]; simp [readG, h2])
          clear h2 HSU2
          go_wp2_with (at_builtin; refine Sh.out ?_)
          refine ⟨?_⟩
          refine wpl_push E_from rfl _ _ rfl w.heap.size _ acc (⟨x.txn, t⟩ : PR) W2.heap.size rfl rfl (HT.out.ow.alloc _) (by exact Blk.new W2 _ _) (by have := HLN.out; omega) (by have := HLN.out; unfold maxLen; omega) (by have := HT.out.bl.size; simp; omega) ?_
          intro v10 w10 ho hch _
          have hbw10 := push_below (w := w) (bl_alloc HT.out.bl _) (HT.out.ow.alloc _) hch
          have HO10 := Sh.mk ho
          have HB10 := Sh.mk hbw10
          clear ho hch hbw10 HT x0
          go_wp2_with fail
          go_roundw
          case rel => exact ⟨k + 1, by omega, by go_num, ⟨by rw [HSU3.out]; exact HO10.out⟩, HB10⟩
          case measure => simp [intOf]; omega
    · obtain rfl : k = l.length := by omega
      go_wp2_with fail
      go_ret
      exact ⟨_, rfl, by rw [HG2.out]; exact HO.out, HB.out⟩

def hRecF (l : List EV) : Bool := hRightF l && !(readsF l).any (recP l)
theorem readsF_len (l : List EV) : (readsF l).length ≤ l.length := by
  unfold readsF
  split
  · exact readsGo_len l l.length
  · simp
set_option maxHeartbeats 2000000 in
set_option maxRecDepth 100000 in
theorem hrec_calls (A : Option Addr) (c : Nat) (l : List EV) (w : World) (hr : RowOf encEV 3 w A l) (hl : l.length ≤ 1000000) (hlc : l.length ≤ c) (hcm : c ≤ maxLen) :
    Calls Try.prog 13 #[.slice A l.length c] w fun e w' => e = .returned (.bool (hRecF l)) ∧ Below w.heap.size w w' := by
  have eg1 : ∀ args w, (callFunc 39 args).run Try.prog w = .ok (.enter 39 args) w := Go.Proofs.enters_of Try.func39 (by kernel_rfl) rfl
  have HR := Sh.mk hr
  have HRT := Sh.mk (fun W (h : Below w.heap.size w W) => hright_calls A c l W (hr.below h) hl)
  have HRD := Sh.mk (fun W (h : Below w.heap.size w W) => reads_calls A c l W (hr.below h) hl hlc hcm)
  have hG : hRecF l = (hRightF l && !(readsF l).any (recP l)) := rfl
  generalize hRecF l = R at hG
  generalize hRightF l = rt at HRT hG
  have HG := Sh.mk hG
  have HLN := Sh.mk (readsF_len l)
  clear hr hG
  go_enter Try.func13, Try.ntmps13
  go_wp2_with fail
  have hc0 : (w.alloc (.cells #[.slice A l.length c] 22)).cell? ⟨w.heap.size, 0, none⟩ = some (.slice A l.length c) := by simp
  refine (HRT.out _ (bl_alloc (Below.refl _ _) _)).mono ?_
  rintro e W1 ⟨rfl, hb1⟩
  have hB1 := below_trans (bl_alloc (Below.refl _ _) _) hb1
  have c1 : W1.cell? ⟨w.heap.size, 0, none⟩ = some (.slice A l.length c) := below_cell hb1 hc0
  have HB1 := Sh.mk hB1
  clear hb1 hB1 hc0 HRT
  cases rt
  · go_wp2_with fail
    go_ret
    refine ⟨?_, HB1.out⟩
    rw [HG.out]
    rfl
  go_wp2_with fail
  refine (HRD.out _ HB1.out).mono ?_
  rintro e W2 ⟨v, rfl, hO2, hb2⟩
  obtain ⟨A2, k2, hv, _, _, hr2⟩ := hO2.reads (fun _ => rfl)
  subst hv
  have hB2 := below_trans HB1.out hb2
  have c2 := below_cell hb2 c1
  have HB2 := Sh.mk hB2
  have HC := Sh.mk (contains_from_calls 39 #[.pointer (some ⟨w.heap.size, 0, none⟩)] eg1 (recP l) A2 k2 (readsF l) W2 hr2 (by have := HLN.out; omega) (rec1_calls A c l w.heap.size W2 c2 (HR.out.below hB2) hl))
  generalize (readsF l).any (recP l) = q at HC HG
  clear hO2 hb2 hB2 c1 hr2 HRD
  go_wp2_with fail
  refine HC.out.mono ?_
  rintro e W3 ⟨rfl, hb3⟩
  go_wp2_with fail
  go_ret
  refine ⟨?_, below_trans HB2.out hb3⟩
  rw [HG.out]
  rfl
end Go.Proofs.Ytapjjhdopelpjaa
