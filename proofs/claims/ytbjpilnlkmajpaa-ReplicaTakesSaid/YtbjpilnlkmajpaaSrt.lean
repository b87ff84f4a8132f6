import Derived.Test.YtbjpilnlkmajpaaNew
import Derived.Test.YtbjpilnlkmajpaaLay
namespace Go.Proofs.Ytbjpilnlkmajpaa
set_option linter.unusedVariables false
set_option linter.unusedSimpArgs false
open Go.RowKit Go.Maps Go.Proofs.K Go.Sort Go.Shelf

/-- The keys of a map, rising. -/
structure KeysS {α : Type} (m : ByteArray → Option α) (ks : List ByteArray) : Prop where
  up : ks.Pairwise fun x y => x.data.toList ≤ y.data.toList
  nd : ks.Nodup
  mem : ∀ k, k ∈ ks ↔ (m k).isSome = true
structure KeysI {α : Type} (m : Int → Option α) (ks : List Int) : Prop where
  up : ks.Pairwise fun x y => x ≤ y
  nd : ks.Nodup
  mem : ∀ k, k ∈ ks ↔ (m k).isSome = true

theorem bytes_eq {x y : ByteArray} (h : x.data.toList = y.data.toList) : x = y := by
  obtain ⟨⟨x⟩⟩ := x
  obtain ⟨⟨y⟩⟩ := y
  simp at h
  rw [h]
theorem KeysS.unique {α β : Type} {m : ByteArray → Option α} {m' : ByteArray → Option β} {ks ls : List ByteArray} (h : KeysS m ks) (k : KeysS m' ls) (hm : ∀ x, (m x).isSome = (m' x).isSome) : ks = ls := by
  have hp : ks.Perm ls := (List.perm_ext_iff_of_nodup h.nd k.nd).2 fun x => by rw [h.mem, k.mem, hm]
  exact List.Perm.eq_of_pairwise (le := fun x y => x.data.toList ≤ y.data.toList) (fun a b _ _ h1 h2 => bytes_eq (List.le_antisymm h1 h2)) h.up k.up hp
theorem KeysI.unique {α β : Type} {m : Int → Option α} {m' : Int → Option β} {ks ls : List Int} (h : KeysI m ks) (k : KeysI m' ls) (hm : ∀ x, (m x).isSome = (m' x).isSome) : ks = ls := by
  have hp : ks.Perm ls := (List.perm_ext_iff_of_nodup h.nd k.nd).2 fun x => by rw [h.mem, k.mem, hm]
  exact List.Perm.eq_of_pairwise (le := fun x y => x ≤ y) (fun a b _ _ h1 h2 => Int.le_antisymm h1 h2) h.up k.up hp

theorem flatStr : ∀ so : List (List UInt8), (so.map (fun l => (⟨l.toArray⟩ : ByteArray))).flatMap encStr = so.map _root_.Go.Proofs.encStr
  | [] => rfl
  | a :: so => by
    rw [List.map_cons, List.flatMap_cons, List.map_cons, flatStr so]
    rfl
theorem flatInt : ∀ so : List Int, so.flatMap (fun k => [Value.int .i64 k]) = so.map encZ
  | [] => rfl
  | a :: so => by
    rw [List.flatMap_cons, List.map_cons, flatInt so]
    rfl
theorem sortsS (m : Nat) : AnyZ.SortsIn Try.prog Try.sortedS_ren Fence.wide m :=
  ⟨fun blk off cap ss W hH hblk hsz => callsIn_wide.2 (AnyM.slices_Sort_string Try.sortS blk off cap ss W hH hblk hsz),
   fun p cap W => callsIn_wide.2 (AnyM.slices_Sort_string_none Try.sortS p cap W)⟩
theorem sortsI (m : Nat) : AnyZI.SortsIn Try.prog Try.sortedI_ren Fence.wide m :=
  ⟨fun blk off cap ss W hH hblk hsz => callsIn_wide.2 (AnyM.slices_Sort_int Try.sortI blk off cap ss W hH hblk hsz),
   fun p cap W => callsIn_wide.2 (AnyM.slices_Sort_int_none Try.sortI p cap W)⟩

theorem keysS_calls (mb : Option Nat) (W : World) : Calls Try.prog 26 #[.map mb] W fun e w' => e = .returned (.func (.func 37) #[] #[.pointer (some ⟨W.heap.size, 0, none⟩)]) ∧ w' = W.alloc (.cells #[.map mb] 60) :=
  (callsIn_wide (n := 6)).1 (AnyZ.keys_in Try.keysS Fence.wide 6 trivial rfl mb W)
theorem keysI_calls (mb : Option Nat) (W : World) : Calls Try.prog 28 #[.map mb] W fun e w' => e = .returned (.func (.func 40) #[] #[.pointer (some ⟨W.heap.size, 0, none⟩)]) ∧ w' = W.alloc (.cells #[.map mb] 61) :=
  (callsIn_wide (n := 6)).1 (AnyZI.keys_in Try.keysI Fence.wide 6 trivial rfl mb W)

set_option maxHeartbeats 1000000 in
theorem sortedS_calls (Bm b n : Nat) (m : ByteArray → Option ByteArray) (w : World) (h : MapSS Try.prog 9 9 w b n m) (hc : w.cell? ⟨Bm, 0, none⟩ = some (.map (some b))) (hn : n ≤ 1000000000) :
    Calls Try.prog 25 #[.func (.func 37) #[] #[.pointer (some ⟨Bm, 0, none⟩)]] w fun e w' => ∃ (v : Value) (ks : List ByteArray), e = .returned v ∧ KeysS m ks ∧ (∀ k ∈ ks, k.size ≤ maxLen) ∧ ks.length ≤ n ∧ Own encStr 9 1 w' w.heap.size v ks ∧ Below w.heap.size w w' := by
  obtain ⟨D, hown, hD, hm⟩ := h
  have hsz := hown.size_le
  have hlt := cell_lt hc
  have hseq := AnyZ.keys_gives (ρ := Try.keysS_ren) { Try.keysS with } Fence.wide 2 trivial rfl (by omega) Bm b n D w hlt hc hown
  have cS := AnyZ.sorted_in Try.sortedS Fence.wide 5 trivial trivial trivial trivial rfl (by omega) (sortsS _) (Go.Proofs.enters_of Try.func36 (by kernel_rfl) rfl) 37 #[.pointer (some ⟨Bm, 0, none⟩)] trivial (Go.Proofs.enters_of Try.func37 (by kernel_rfl) rfl) _ (Maps.size D) (by unfold maxLen; omega) (by omega) w hseq
  change CallsIn _ _ Try.prog 25 _ _ _ at cS
  refine Calls.mono ((callsIn_wide (n := 5)).1 cS) ?_
  rintro e w' ⟨v, ss, rfl, hp, hrow, -, hb⟩
  have hle := strKeys_le hown Try.underlying9
  obtain ⟨es, hDe, hpw, hlit⟩ := hown.entries (string_keyed Try.underlying9)
  obtain ⟨es', hDe', hko⟩ := hown.keysOf
  obtain rfl : es = es' := by rw [hDe] at hDe'; simpa using hDe'
  subst hDe
  have hk : ∀ p ∈ es, ∃ x, p.1 = .string x := fun p hp => by
    obtain ⟨v, hv⟩ := hko p hp
    obtain ⟨x, _, hx, _⟩ := Go.Maps.keyOf_str Try.underlying9 hv
    exact ⟨x, hx⟩
  have hmem : ∀ l, l ∈ ss ↔ has (.map es) (.string l) = true := fun l => by
    rw [hp.mem_iff, has_eq, List.any_eq_true]
    show l ∈ es.map (fun p => strOf p.1) ↔ _
    rw [List.mem_map]
    constructor
    · rintro ⟨p, hp', rfl⟩
      obtain ⟨a, ha⟩ := hk p hp'
      exact ⟨p, hp', by rw [ha]; simp [Lit.sameKey, strOf]⟩
    · rintro ⟨p, hp', hs⟩
      obtain ⟨a, ha⟩ := hk p hp'
      rw [ha] at hs
      exact ⟨p, hp', by rw [ha]; simpa [Lit.sameKey, strOf] using hs⟩
  have hnd : ss.Nodup := by
    rw [hp.nodup_iff]
    show (es.map fun p => strOf p.1).Nodup
    refine List.pairwise_map.2 (hpw.imp_of_mem fun {p q} hp' hq' hne e => hne ?_)
    obtain ⟨a, ha⟩ := hk p hp'
    obtain ⟨b, hb⟩ := hk q hq'
    rw [ha, hb] at e ⊢
    exact congrArg _ e
  have tr : ∀ a b c : List UInt8, leB a b = true → leB b c = true → leB a c = true := fun a b c h1 h2 => by simp only [leB, decide_eq_true_eq] at *; exact List.le_trans h1 h2
  have to : ∀ a b : List UInt8, (leB a b || leB b a) = true := fun a b => by simp only [leB, Bool.or_eq_true, decide_eq_true_eq]; exact List.le_total a b
  have hso := List.pairwise_mergeSort tr to ss
  have hpm := List.mergeSort_perm ss leB
  change w'.ownsRow w.heap.size 9 1 v ss.length ((ss.mergeSort leB).map _root_.Go.Proofs.encStr) at hrow
  generalize ss.mergeSort leB = so at hso hpm hrow
  have hlen : ss.length ≤ n := by
    have h1 := hp.length_eq
    have h2 : (strKeys (.map es)).length = Maps.size (.map es) := by show (es.map _).length = es.length; simp
    omega
  refine ⟨v, so.map (fun l => ⟨l.toArray⟩), rfl, ⟨?_, ?_, ?_⟩, ?_, by rw [List.length_map, hpm.length_eq]; exact hlen, ?_, hb⟩
  · rw [List.pairwise_map]
    exact hso.imp fun h => by simpa [leB] using h
  · refine List.pairwise_map.2 ((hpm.nodup_iff.2 hnd).imp fun hne e => hne ?_)
    have := congrArg (fun x : ByteArray => x.data.toList) e
    simpa using this
  · intro k
    rw [← (hm k).1, ← hmem, ← hpm.mem_iff, List.mem_map]
    constructor
    · rintro ⟨l, hl, rfl⟩; simpa using hl
    · intro hl; exact ⟨_, hl, bytes_eq (by simp)⟩
  · intro k hk'
    obtain ⟨l, hl, rfl⟩ := List.mem_map.1 hk'
    have := hle l (hp.mem_iff.1 (hpm.mem_iff.1 hl))
    simpa [ByteArray.size] using this
  · unfold Own
    rw [List.length_map, hpm.length_eq]
    rw [flatStr]
    exact hrow

set_option maxHeartbeats 1000000 in
theorem sortedI_calls (Bm b n : Nat) (m : Int → Option Value) (w : World) (h : MapIV Try.prog 3 w b n m) (hc : w.cell? ⟨Bm, 0, none⟩ = some (.map (some b))) (hn : n ≤ 1000000000) :
    Calls Try.prog 27 #[.func (.func 40) #[] #[.pointer (some ⟨Bm, 0, none⟩)]] w fun e w' => ∃ (v : Value) (ks : List Int), e = .returned v ∧ KeysI m ks ∧ ks.length ≤ n ∧ Own (fun k => [.int .i64 k]) 3 1 w' w.heap.size v ks ∧ Below w.heap.size w w' := by
  obtain ⟨D, hown, hD, hm⟩ := h
  have hsz := hown.size_le
  have hlt := cell_lt hc
  have hseq := AnyZI.keys_gives (ρ := Try.keysI_ren) { Try.keysI with } Fence.wide 2 trivial rfl (by omega) Bm b n D w hlt hc hown
  have cS := AnyZI.sorted_in Try.sortedI Fence.wide 5 trivial trivial trivial trivial rfl (by omega) (sortsI _) (Go.Proofs.enters_of Try.func39 (by kernel_rfl) rfl) 40 #[.pointer (some ⟨Bm, 0, none⟩)] trivial (Go.Proofs.enters_of Try.func40 (by kernel_rfl) rfl) _ (Maps.size D) (by unfold maxLen; omega) (by omega) w hseq
  change CallsIn _ _ Try.prog 27 _ _ _ at cS
  refine Calls.mono ((callsIn_wide (n := 5)).1 cS) ?_
  rintro e w' ⟨v, ss, rfl, hp, hrow, -, hb⟩
  have hwf := intKeys_wf hown Try.underlying3
  obtain ⟨es, hDe, hpw, hlit⟩ := hown.entries (int_keyed Try.underlying3)
  obtain ⟨es', hDe', hko⟩ := hown.keysOf
  obtain rfl : es = es' := by rw [hDe] at hDe'; simpa using hDe'
  subst hDe
  have hk : ∀ p ∈ es, ∃ x, p.1 = .int .i64 x := fun p hp => by
    obtain ⟨v, hv⟩ := hko p hp
    obtain ⟨x, _, hx, _⟩ := Go.Maps.keyOf_i64 Try.underlying3 hv
    exact ⟨x, hx⟩
  have hmem : ∀ l, l ∈ ss ↔ has (.map es) (.int .i64 l) = true := fun l => by
    rw [hp.mem_iff, has_eq, List.any_eq_true]
    show l ∈ es.map (fun p => _root_.Go.intOf p.1) ↔ _
    rw [List.mem_map]
    constructor
    · rintro ⟨p, hp', rfl⟩
      obtain ⟨a, ha⟩ := hk p hp'
      exact ⟨p, hp', by rw [ha]; simp [Lit.sameKey, _root_.Go.intOf]⟩
    · rintro ⟨p, hp', hs⟩
      obtain ⟨a, ha⟩ := hk p hp'
      rw [ha] at hs
      exact ⟨p, hp', by rw [ha]; simpa [Lit.sameKey, _root_.Go.intOf] using hs⟩
  have hnd : ss.Nodup := by
    rw [hp.nodup_iff]
    show (es.map fun p => _root_.Go.intOf p.1).Nodup
    refine List.pairwise_map.2 (hpw.imp_of_mem fun {p q} hp' hq' hne e => hne ?_)
    obtain ⟨a, ha⟩ := hk p hp'
    obtain ⟨b, hb⟩ := hk q hq'
    rw [ha, hb] at e ⊢
    exact congrArg _ e
  have tr : ∀ a b c : Int, leI a b = true → leI b c = true → leI a c = true := fun a b c h1 h2 => by simp only [leI, decide_eq_true_eq] at *; exact Int.le_trans h1 h2
  have to : ∀ a b : Int, (leI a b || leI b a) = true := fun a b => by simp only [leI, Bool.or_eq_true, decide_eq_true_eq]; exact Int.le_total a b
  have hso := List.pairwise_mergeSort tr to ss
  have hpm := List.mergeSort_perm ss leI
  change w'.ownsRow w.heap.size 3 1 v ss.length ((ss.mergeSort leI).map encZ) at hrow
  generalize ss.mergeSort leI = so at hso hpm hrow
  have hlen : ss.length ≤ n := by
    have h1 := hp.length_eq
    have h2 : (intKeys (.map es)).length = Maps.size (.map es) := by show (es.map _).length = es.length; simp
    omega
  refine ⟨v, so, rfl, ⟨?_, hpm.nodup_iff.2 hnd, ?_⟩, by rw [hpm.length_eq]; exact hlen, ?_, hb⟩
  · exact hso.imp fun h => by simpa [leI] using h
  · intro k
    rw [← (hm k).1, ← hmem, hpm.mem_iff]
  · unfold Own
    rw [hpm.length_eq]
    rw [flatInt]
    exact hrow
end Go.Proofs.Ytbjpilnlkmajpaa
