import Derived.Test.YtbjpilnlkmajpaaIdx
import Derived.Test.YtbjpilnlkmajpaaRep
import Derived.ChangeSame
import Derived.Deep.Slices
namespace Go.Proofs.Ytbjpilnlkmajpaa
set_option linter.unusedVariables false
set_option linter.unusedSimpArgs false
open Go.RowKit Go.Proofs.K Go.ChangeShapes Go.WideShapes
section
variable {H : Type} {enc : TypeId × Value → H} {w : World} {base : Nat} {spare : Nat → Bool} {held : Bool}
theorem c_int : Try.prog.cellsOf 3 = 1 := by kernel_rfl
theorem c_str : Try.prog.cellsOf 9 = 1 := by kernel_rfl
theorem c_bool : Try.prog.cellsOf 4 = 1 := by kernel_rfl
theorem c_val : Try.prog.cellsOf 29 = 2 := by kernel_rfl
theorem c_rec : Try.prog.cellsOf 31 = 11 := by kernel_rfl
theorem c_brec : Try.prog.cellsOf 33 = 12 := by kernel_rfl

theorem len2 : ∀ {cs : List Value}, cs.length = 2 → ∃ a b, cs = [a, b]
  | [a, b], _ => ⟨a, b, rfl⟩
theorem len11 : ∀ {cs : List Value}, cs.length = 11 → ∃ a b c d e f g h i j k, cs = [a, b, c, d, e, f, g, h, i, j, k]
  | [a, b, c, d, e, f, g, h, i, j, k], _ => ⟨a, b, c, d, e, f, g, h, i, j, k, rfl⟩
theorem len9 {α : Type} : ∀ {cs : List α}, cs.length = 9 → ∃ a b c d e f g h i, cs = [a, b, c, d, e, f, g, h, i]
  | [a, b, c, d, e, f, g, h, i], _ => ⟨a, b, c, d, e, f, g, h, i, rfl⟩
theorem len12 : ∀ {cs : List Value}, cs.length = 12 → ∃ a us, cs = a :: us ∧ us.length = 11
  | a :: us, h => ⟨a, us, rfl, by simpa using h⟩
theorem open_val {fuel : Nat} {cs : List Value} {x : DataW H × List MemPlace} (h : DataW.trod enc Try.prog w base spare held fuel 29 cs = some x) : ∃ v : VL, cs = [.bool v.has, .string v.s] := by
  obtain ⟨y0, y1, n, _, hl, h0, h1⟩ := trod_struct2 Try.underlying29 h
  rw [c_val] at hl
  obtain ⟨u0, u1, rfl⟩ := len2 hl
  · dsimp only at h0 h1
    rw [c_bool] at h0
    rw [c_str] at h1
    obtain ⟨b, e0, _⟩ := DataW.trod_bool Try.underlying4 h0
    obtain ⟨s, e1, _⟩ := DataW.trod_string Try.underlying9 h1
    simp at e0 e1
    subst e0 e1
    exact ⟨⟨b, s⟩, rfl⟩

theorem open_rec {fuel : Nat} {cs : List Value} {x : DataW H × List MemPlace} (h : DataW.trod enc Try.prog w base spare held fuel 31 cs = some x) : ∃ r : RC, cs = encRec r ∧ (Lit.int .i64 r.txn).wf = true := by
  obtain ⟨xs, n, _, rfl, hl, hlen, hf⟩ := DataW.trod_struct Try.underlying31 h
  rw [c_rec] at hl
  obtain ⟨y0, y1, y2, y3, y4, y5, y6, y7, y8, rfl⟩ := len9 (hlen.trans rfl)
  obtain ⟨u0, u1, u2, u3, u4, u5, u6, u7, u8, u9, u10, rfl⟩ := len11 hl
  · · have h0 : DataW.trod enc Try.prog w base spare held n 3 (([u0, u1, u2, u3, u4, u5, u6, u7, u8, u9, u10].drop 0).take (Try.prog.cellsOf 3)) = some y0 := hf 0 _ rfl
      have h1 : DataW.trod enc Try.prog w base spare held n 3 (([u0, u1, u2, u3, u4, u5, u6, u7, u8, u9, u10].drop 1).take (Try.prog.cellsOf 3)) = some y1 := hf 1 _ rfl
      have h2 : DataW.trod enc Try.prog w base spare held n 3 (([u0, u1, u2, u3, u4, u5, u6, u7, u8, u9, u10].drop 2).take (Try.prog.cellsOf 3)) = some y2 := hf 2 _ rfl
      have h3 : DataW.trod enc Try.prog w base spare held n 3 (([u0, u1, u2, u3, u4, u5, u6, u7, u8, u9, u10].drop 3).take (Try.prog.cellsOf 3)) = some y3 := hf 3 _ rfl
      have h4 : DataW.trod enc Try.prog w base spare held n 3 (([u0, u1, u2, u3, u4, u5, u6, u7, u8, u9, u10].drop 4).take (Try.prog.cellsOf 3)) = some y4 := hf 4 _ rfl
      have h5 : DataW.trod enc Try.prog w base spare held n 9 (([u0, u1, u2, u3, u4, u5, u6, u7, u8, u9, u10].drop 5).take (Try.prog.cellsOf 9)) = some y5 := hf 5 _ rfl
      have h6 : DataW.trod enc Try.prog w base spare held n 29 (([u0, u1, u2, u3, u4, u5, u6, u7, u8, u9, u10].drop 6).take (Try.prog.cellsOf 29)) = some y6 := hf 6 _ rfl
      have h7 : DataW.trod enc Try.prog w base spare held n 29 (([u0, u1, u2, u3, u4, u5, u6, u7, u8, u9, u10].drop 8).take (Try.prog.cellsOf 29)) = some y7 := hf 7 _ rfl
      have h8 : DataW.trod enc Try.prog w base spare held n 3 (([u0, u1, u2, u3, u4, u5, u6, u7, u8, u9, u10].drop 10).take (Try.prog.cellsOf 3)) = some y8 := hf 8 _ rfl
      rw [c_int] at h0 h1 h2 h3 h4 h8
      rw [c_str] at h5
      rw [c_val] at h6 h7
      obtain ⟨k0, e0, _, _⟩ := DataW.trod_int Try.underlying3 h0
      obtain ⟨k1, e1, _, _⟩ := DataW.trod_int Try.underlying3 h1
      obtain ⟨k2, e2, _, w2⟩ := DataW.trod_int Try.underlying3 h2
      obtain ⟨k3, e3, _, _⟩ := DataW.trod_int Try.underlying3 h3
      obtain ⟨k4, e4, _, _⟩ := DataW.trod_int Try.underlying3 h4
      obtain ⟨s5, e5, _⟩ := DataW.trod_string Try.underlying9 h5
      obtain ⟨v6, e6⟩ := open_val h6
      obtain ⟨v7, e7⟩ := open_val h7
      obtain ⟨k8, e8, _, _⟩ := DataW.trod_int Try.underlying3 h8
      simp at e0 e1 e2 e3 e4 e5 e6 e7 e8
      obtain ⟨e6, e6'⟩ := e6
      obtain ⟨e7, e7'⟩ := e7
      subst e0 e1 e2 e3 e4 e5 e6 e6' e7 e7' e8
      exact ⟨⟨k0, k1, k2, k3, k4, s5, v6, v7, k8⟩, rfl, w2⟩

theorem open_brec {fuel : Nat} {cs : List Value} {x : DataW H × List MemPlace} (h : DataW.trod enc Try.prog w base spare held fuel 33 cs = some x) : ∃ r : BR, cs = encBR r ∧ (Lit.int .i64 r.r.txn).wf = true := by
  obtain ⟨y0, y1, n, _, hl, h0, h1⟩ := trod_struct2 Try.underlying33 h
  rw [c_brec] at hl
  obtain ⟨u0, us, rfl, hl⟩ := len12 hl
  · dsimp only at h0 h1
    rw [c_int] at h0
    rw [c_rec] at h1
    have e : ((u0 :: us).drop 1).take 11 = us := by
      rw [List.drop_succ_cons, List.drop_zero]
      exact List.take_of_length_le (by omega)
    rw [e] at h1
    obtain ⟨k0, e0, _, _⟩ := DataW.trod_int Try.underlying3 h0
    obtain ⟨r, rfl, hw⟩ := open_rec h1
    simp at e0
    subst e0
    exact ⟨⟨k0, r⟩, rfl, hw⟩
end
end Go.Proofs.Ytbjpilnlkmajpaa
