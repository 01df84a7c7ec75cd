/- A relation that came in by value. -/
import Derived.Test.YtpnobpnknlpjnaaDoorOpen
import Derived.ChangeArms
import Derived.ChangeSame
set_option linter.unusedVariables false
namespace Go.Proofs.YtpnobpnknlpjnaaDoor
open Go Go.RowKit Go.ChangeShapes Go.WideShapes
set_option maxRecDepth 10000 in
/-- A relation that came in by value. -/
theorem open_rel {H : Type} {enc : TypeId × Value → H} {W : World} {base : Nat} {v : Value} {d : DataW H} {ps : List MemPlace} {sp : Nat → Bool} {hd : Bool}
    (hval : Value.okWide Tryd.prog W .any base 33 v) (h : DataW.Trod enc Tryd.prog W 0 sp hd 33 v d ps) :
    ∃ x : Rel, v = .agg #[.int .i64 x.1, .string x.2.1, .string x.2.2] ∧ x.2.1.size ≤ 9223372036854775807 ∧ x.2.2.size ≤ 9223372036854775807 := by
  obtain ⟨fuel, hf⟩ := h
  have hv : ∃ cs, v = .agg cs := by
    unfold Value.okWide at hval
    rw [Tryd.underlying33] at hval
    obtain ⟨cs, h, _⟩ := hval
    exact ⟨cs, h⟩
  obtain ⟨cs, rfl⟩ := hv
  obtain ⟨xs, n, _, _, hlen, hxl, hel⟩ := DataW.trod_struct Tryd.underlying33 hf
  rw [show Tryd.prog.cellsOf 33 = 3 by kernel_rfl] at hlen
  have e1 : Tryd.prog.cellsOf 3 = 1 := by kernel_rfl
  have e2 : Tryd.prog.cellsOf 9 = 1 := by kernel_rfl
  simp only [Value.cells] at hlen hel
  obtain ⟨l⟩ := cs
  simp only at hlen hel
  match l, hlen with
  | [u0, u1, u2], _ =>
    have g0 := hel 0 _ rfl
    have g1 := hel 1 _ rfl
    have g2 := hel 2 _ rfl
    simp [e1, e2] at g0 g1 g2
    have hx3 : xs.length = 3 := hxl
    rw [List.getElem?_eq_getElem (by omega)] at g0 g1 g2
    obtain ⟨q0, h0, _, _⟩ := DataW.trod_int Tryd.underlying3 g0
    obtain ⟨q1, h1, _, z1⟩ := DataW.trod_string Tryd.underlying9 g1
    obtain ⟨q2, h2, _, z2⟩ := DataW.trod_string Tryd.underlying9 g2
    obtain rfl : u0 = .int .i64 q0 := by simpa using h0
    obtain rfl : u1 = .string q1 := by simpa using h1
    obtain rfl : u2 = .string q2 := by simpa using h2
    exact ⟨(q0, q1, q2), rfl, z1, z2⟩
end Go.Proofs.YtpnobpnknlpjnaaDoor
