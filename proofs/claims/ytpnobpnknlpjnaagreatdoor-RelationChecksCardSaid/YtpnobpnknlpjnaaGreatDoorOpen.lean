/- Reading the parameters of the statements. -/
import Derived.Test.YtpnobpnknlpjnaaGreatDoorWords
import Derived.Test.YtpnobpnknlpjnaaGreatDoorParse
import Derived.OpenShut
import Derived.ShutString
import Derived.ChangeOld
import Derived.Deep.Slices
import Derived.ProofKit
import Derived.Below
set_option linter.unusedVariables false
namespace Go.Proofs.YtpnobpnknlpjnaaGreatDoor
open Go Go.RowKit Go.ChangeShapes Go.WideShapes

theorem add_plain' (b o i : Nat) : (⟨b, o, none⟩ : Addr).add i = ⟨b, o + i, none⟩ := by unfold Addr.add; split <;> simp_all
set_option maxRecDepth 10000 in
/-- A slice of relations that came in. -/
theorem open_rels {H : Type} {enc : TypeId × Value → H} {W : World} {A : Option Addr} {len cap : Nat} {d : DataW H} {ps : List MemPlace} {sp : Nat → Bool} {hd : Bool}
    (h : DataW.Trod enc Tryz.prog W 0 sp hd 22 (.slice A len cap) d ps) :
    len ≤ 9223372036854775807 ∧ (len ≤ 202 → ∃ xs : List Rel, xs.length = len ∧ Rd encR W A xs ∧ ∀ x ∈ xs, x.2.1.size ≤ 9223372036854775807 ∧ x.2.2.size ≤ 9223372036854775807) := by
  obtain ⟨fuel, hf⟩ := h
  rcases Deep.open_slice Tryz.underlying22 hf with ⟨hcs, _⟩ | ⟨a, l, c, m, n, D, Pl, hcs, _, hl, hm, hmm, _, hx⟩
  · simp [Value.cells] at hcs
    obtain ⟨rfl, rfl, rfl⟩ := hcs
    exact ⟨by omega, fun _ => ⟨[], rfl, Rd.nil _ _ _, by simp⟩⟩
  · simp [Value.cells] at hcs
    obtain ⟨rfl, rfl, rfl⟩ := hcs
    have hlm : len ≤ m := by rw [hmm]; split <;> omega
    refine ⟨by unfold maxLen at hm; omega, fun h12 => ?_⟩
    have e3 : Tryz.prog.cellsOf 25 = 3 := by kernel_rfl
    have e1 : Tryz.prog.cellsOf 3 = 1 := by kernel_rfl
    have e2 : Tryz.prog.cellsOf 9 = 1 := by kernel_rfl
    have each : ∀ i, ∃ q : Rel, i < len → ((i = 0 → a.spot = none) ∧ q.2.1.size ≤ 9223372036854775807 ∧ q.2.2.size ≤ 9223372036854775807) ∧ ∀ j u, (encR q)[j]? = some u → W.cell? ((a.add (i * 3)).add j) = some u := by
      intro i
      rcases Nat.lt_or_ge i len with hi | hi
      case inr => exact ⟨(0, ⟨#[]⟩, ⟨#[]⟩), fun h => absurd h (by omega)⟩
      obtain ⟨cs', h1, h2⟩ := hx i (by omega)
      rw [e3] at h1
      obtain ⟨_, hlen, hcell⟩ := World.cells?_some h1
      obtain ⟨xs, k, _, _, hlen', hxl, hel⟩ := DataW.trod_struct Tryz.underlying25 h2
      match cs', hlen with
      | [u0, u1, u2], _ =>
        have g0 := hel 0 _ rfl
        have g1 := hel 1 _ rfl
        have g2 := hel 2 _ rfl
        simp [e1, e2] at g0 g1 g2
        have hx3 : xs.length = 3 := hxl
        rw [List.getElem?_eq_getElem (by omega)] at g0 g1 g2
        obtain ⟨q0, h0, _, _⟩ := DataW.trod_int Tryz.underlying3 g0
        obtain ⟨q1, h1', _, z1⟩ := DataW.trod_string Tryz.underlying9 g1
        obtain ⟨q2, h2', _, z2⟩ := DataW.trod_string Tryz.underlying9 g2
        obtain rfl : u0 = .int .i64 q0 := by simpa using h0
        obtain rfl : u1 = .string q1 := by simpa using h1'
        obtain rfl : u2 = .string q2 := by simpa using h2'
        have y0 := (hcell 0 (by omega)).trans (show ([Value.int .i64 q0, .string q1, .string q2])[0]? = _ from rfl)
        have y1 := (hcell 1 (by omega)).trans (show ([Value.int .i64 q0, .string q1, .string q2])[1]? = _ from rfl)
        have y2 := (hcell 2 (by omega)).trans (show ([Value.int .i64 q0, .string q1, .string q2])[2]? = _ from rfl)
        refine ⟨(q0, q1, q2), fun _ => ⟨⟨?_, z1, z2⟩, fun j u hj => ?_⟩⟩
        · rintro rfl
          simpa [Addr.add] using World.cell?_spot y0
        · match j, hj with
          | 0, hj => simp [encR] at hj; subst hj; exact y0
          | 1, hj => simp [encR] at hj; subst hj; exact y1
          | 2, hj => simp [encR] at hj; subst hj; exact y2
    obtain ⟨f, hfq⟩ := Classical.axiomOfChoice each
    refine ⟨(List.range len).map f, by simp, ⟨by simp; omega, fun hp => ?_⟩, fun d hd => ?_⟩
    · have hp' : 0 < len := by simpa using hp
      have hs := (hfq 0 hp').1.1 rfl
      obtain ⟨b, o, s⟩ := a
      simp only at hs
      subst hs
      refine ⟨b, o, rfl, fun j u hj => ?_⟩
      have hlt := lt_of_get hj
      rw [flat_length (k := 3) (fun _ => rfl)] at hlt
      simp only [List.length_map, List.length_range] at hlt
      have hi : j / 3 < len := by omega
      have hg := flat_get (enc := encR) (k := 3) (fun _ => rfl) ((List.range len).map f) (j / 3) (f (j / 3)) (by simp [hi]) (j % 3) (Nat.mod_lt _ (by omega))
      rw [Nat.div_add_mod' j 3] at hg
      rw [hg] at hj
      have := (hfq (j / 3) hi).2 (j % 3) u hj
      rw [add_plain', add_plain'] at this
      rw [show o + j = o + j / 3 * 3 + j % 3 by omega]
      exact this
    · obtain ⟨i, hi, rfl⟩ := List.mem_map.1 hd
      exact (hfq i (List.mem_range.1 hi)).1.2
end Go.Proofs.YtpnobpnknlpjnaaGreatDoor
