/- Reading the parameters of the statements. -/
import Derived.Test.YtpnobpnknlpjnaaDoorWords
import Derived.Test.YtpnobpnknlpjnaaDoorParse
import Derived.OpenShut
import Derived.ShutString
import Derived.ChangeOld
import Derived.Deep.Slices
import Derived.ProofKit
import Derived.Below
set_option linter.unusedVariables false
namespace Go.Proofs.YtpnobpnknlpjnaaDoor
open Go Go.RowKit Go.ChangeShapes Go.WideShapes

theorem add_plain' (b o i : Nat) : (⟨b, o, none⟩ : Addr).add i = ⟨b, o + i, none⟩ := by unfold Addr.add; split <;> simp_all
theorem take_one {cs : List Value} {i : Nat} {u : Value} (h : cs[i]? = some u) : (cs.drop i).take 1 = [u] := by
  have hi := lt_of_get h
  rw [List.getElem?_eq_getElem hi] at h
  rw [List.drop_eq_getElem_cons hi, List.take_succ_cons, List.take_zero, Option.some.inj h]
theorem u8_range {n : Int} (h : (Lit.int .u8 n).wf = true) : 0 ≤ n ∧ n ≤ 255 := by
  simp only [Lit.wf, Bool.and_eq_true, decide_eq_true_eq] at h
  simpa [IntKind.min, IntKind.max, IntKind.signed, IntKind.bits] using h
set_option maxRecDepth 10000 in
/-- A slice of descriptions that came in. -/
theorem open_seen {H : Type} {enc : TypeId × Value → H} {W : World} {A : Option Addr} {len cap : Nat} {d : DataW H} {ps : List MemPlace} {sp : Nat → Bool} {hd : Bool}
    (h : DataW.Trod enc Tryd.prog W 0 sp hd 22 (.slice A len cap) d ps) :
    len ≤ 9223372036854775807 ∧ (len ≤ 12 → ∃ xs : List (Int × Int × Int), xs.length = len ∧ Rd enc3 W A xs ∧ ∀ d ∈ xs, (0 ≤ d.1 ∧ d.1 ≤ 255) ∧ (0 ≤ d.2.1 ∧ d.2.1 ≤ 255) ∧ (0 ≤ d.2.2 ∧ d.2.2 ≤ 255)) := by
  obtain ⟨fuel, hf⟩ := h
  rcases Deep.open_slice Tryd.underlying22 hf with ⟨hcs, _⟩ | ⟨a, l, c, m, n, D, Pl, hcs, _, hl, hm, hmm, _, hx⟩
  · simp [Value.cells] at hcs
    obtain ⟨rfl, rfl, rfl⟩ := hcs
    exact ⟨by omega, fun _ => ⟨[], rfl, Rd.nil _ _ _, by simp⟩⟩
  · simp [Value.cells] at hcs
    obtain ⟨rfl, rfl, rfl⟩ := hcs
    have hlm : len ≤ m := by rw [hmm]; split <;> omega
    refine ⟨by unfold maxLen at hm; omega, fun h12 => ?_⟩
    have e3 : Tryd.prog.cellsOf 67 = 3 := by kernel_rfl
    have e1 : Tryd.prog.cellsOf 5 = 1 := by kernel_rfl
    have each : ∀ i, ∃ q : Int × Int × Int, i < len → ((i = 0 → a.spot = none) ∧ (0 ≤ q.1 ∧ q.1 ≤ 255) ∧ (0 ≤ q.2.1 ∧ q.2.1 ≤ 255) ∧ (0 ≤ q.2.2 ∧ q.2.2 ≤ 255)) ∧ ∀ j u, (enc3 q)[j]? = some u → W.cell? ((a.add (i * 3)).add j) = some u := by
      intro i
      rcases Nat.lt_or_ge i len with hi | hi
      case inr => exact ⟨(0, 0, 0), fun h => absurd h (by omega)⟩
      obtain ⟨cs', h1, h2⟩ := hx i (by omega)
      rw [e3] at h1
      obtain ⟨_, hlen, hcell⟩ := World.cells?_some h1
      obtain ⟨xs, k, _, _, _, hxl, hel⟩ := DataW.trod_array Tryd.underlying67 h2
      rw [e1] at hel
      have one : ∀ j, j < 3 → ∃ q : Int, cs'[j]? = some (.int .u8 q) ∧ 0 ≤ q ∧ q ≤ 255 := by
        intro j hj
        obtain ⟨u, hu⟩ := get_of_lt (xs := cs') (i := j) (by omega)
        have h4 := hel j hj
        rw [Nat.mul_one, take_one hu, List.getElem?_eq_getElem (by omega)] at h4
        obtain ⟨q, hq, _, hw⟩ := DataW.trod_int Tryd.underlying5 h4
        obtain rfl : u = .int .u8 q := by simpa using hq
        exact ⟨q, hu, u8_range hw⟩
      obtain ⟨q0, g0, r0⟩ := one 0 (by omega)
      obtain ⟨q1, g1, r1⟩ := one 1 (by omega)
      obtain ⟨q2, g2, r2⟩ := one 2 (by omega)
      have z0 := (hcell 0 (by omega)).trans g0
      have z1 := (hcell 1 (by omega)).trans g1
      have z2 := (hcell 2 (by omega)).trans g2
      refine ⟨(q0, q1, q2), fun _ => ⟨⟨?_, r0, r1, r2⟩, fun j u hj => ?_⟩⟩
      · rintro rfl
        simpa [Addr.add] using World.cell?_spot z0
      · match j, hj with
        | 0, hj => simp [enc3] at hj; subst hj; exact z0
        | 1, hj => simp [enc3] at hj; subst hj; exact z1
        | 2, hj => simp [enc3] at hj; subst hj; exact z2
    obtain ⟨f, hfq⟩ := Classical.axiomOfChoice each
    refine ⟨(List.range len).map f, by simp, ⟨by simp; omega, fun hp => ?_⟩, fun d hd => ?_⟩
    · have hp' : 0 < len := by simpa using hp
      have hs := (hfq 0 hp').1.1 rfl
      obtain ⟨b, o, s⟩ := a
      simp only at hs
      subst hs
      refine ⟨b, o, rfl, fun j u hj => ?_⟩
      have hlt := lt_of_get hj
      rw [flat_length (k := 3) (fun _ => rfl)] at hlt
      simp only [List.length_map, List.length_range] at hlt
      have hi : j / 3 < len := by omega
      have hg := flat_get (enc := enc3) (k := 3) (fun _ => rfl) ((List.range len).map f) (j / 3) (f (j / 3)) (by simp [hi]) (j % 3) (Nat.mod_lt _ (by omega))
      rw [Nat.div_add_mod' j 3] at hg
      rw [hg] at hj
      have := (hfq (j / 3) hi).2 (j % 3) u hj
      rw [add_plain', add_plain'] at this
      rw [show o + j = o + j / 3 * 3 + j % 3 by omega]
      exact this
    · obtain ⟨i, hi, rfl⟩ := List.mem_map.1 hd
      exact (hfq i (List.mem_range.1 hi)).1.2
end Go.Proofs.YtpnobpnknlpjnaaDoor
