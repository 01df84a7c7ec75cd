/- Plain facts for the statement about the lists of names and arcs. -/
import Derived.Test.YtpnobpnknlpjnaaDoorLawNormals
import Derived.Test.YtpnobpnknlpjnaaDoorUnits
set_option linter.unusedVariables false
set_option linter.unusedSimpArgs false
namespace Go.Proofs.YtpnobpnknlpjnaaDoor
open Go Go.RowKit

def usedB (m : List Rel) (a : Nat) : Bool := m.any fun x => decide (x.2.1 = unitS a) || decide (x.2.2 = unitS a)
def unitsTo (m : List Rel) (k : Nat) : List ByteArray := ((List.range k).filter (usedB m)).map fun a : Nat => unitS a
def thereB (m : List Rel) (a b : Nat) : Bool := m.any fun x => decide (x.1 ≠ 4) && decide (x.2.2 = unitS a) && decide (x.2.1 = unitS b)
def arcRow (m : List Rel) (a k : Nat) : List Arc := ((List.range k).filter (thereB m a)).map fun b : Nat => (unitS a, unitS b)
def arcsTo (m : List Rel) (k : Nat) : List Arc := (List.range k).flatMap fun a => arcRow m a 8
theorem unitsTo_step (m : List Rel) (k : Nat) : unitsTo m (k + 1) = unitsTo m k ++ if usedB m k = true then [unitS k] else [] := by
  unfold unitsTo
  rw [List.range_succ, List.filter_append, List.map_append]
  by_cases h : usedB m k = true <;> simp [h]
theorem arcRow_step (m : List Rel) (a k : Nat) : arcRow m a (k + 1) = arcRow m a k ++ if thereB m a k = true then [(unitS a, unitS k)] else [] := by
  unfold arcRow
  rw [List.range_succ, List.filter_append, List.map_append]
  by_cases h : thereB m a k = true <;> simp [h]
theorem arcsTo_step (m : List Rel) (k : Nat) : arcsTo m (k + 1) = arcsTo m k ++ arcRow m k 8 := by
  unfold arcsTo
  rw [List.range_succ, List.flatMap_append]
  simp
theorem unit_less : ∀ a < 8, ∀ b < 8, a < b → K.slt (unitS (a : Nat)) (unitS (b : Nat)) = true := by decide +kernel
theorem unit_some (n : Int) : ∃ a : Nat, a < 8 ∧ unitS n = unitS (a : Nat) := by
  have h : 0 ≤ n % 8 ∧ n % 8 < 8 := ⟨Int.emod_nonneg _ (by omega), Int.emod_lt_of_pos _ (by omega)⟩
  refine ⟨(n % 8).toNat, by omega, ?_⟩
  unfold unitS
  have : (((n % 8).toNat : Nat) : Int) % 8 = n % 8 := by omega
  rw [this]
theorem make_units (l : List (Int × Int × Int)) : ∀ x ∈ makeS l, (∃ a : Nat, a < 8 ∧ x.2.1 = unitS (a : Nat)) ∧ (∃ a : Nat, a < 8 ∧ x.2.2 = unitS (a : Nat)) := by
  intro x hx
  obtain ⟨d, _, rfl⟩ := List.mem_map.1 hx
  exact ⟨unit_some _, unit_some _⟩
theorem unitsTo_sorted (m : List Rel) : (unitsTo m 8).Pairwise (fun a b => K.slt a b = true) := by
  unfold unitsTo
  refine List.pairwise_map.2 ?_
  have hp : ((List.range 8).filter (usedB m)).Pairwise (· < ·) := (List.pairwise_lt_range).filter _
  refine hp.imp_of_mem ?_
  intro a b ha hb hab
  have h1 := (List.mem_filter.1 ha).1
  have h2 := (List.mem_filter.1 hb).1
  exact unit_less a (List.mem_range.1 h1) b (List.mem_range.1 h2) hab
theorem units_eight {m : List Rel} (h : ∀ x ∈ m, (∃ a : Nat, a < 8 ∧ x.2.1 = unitS (a : Nat)) ∧ (∃ a : Nat, a < 8 ∧ x.2.2 = unitS (a : Nat))) : unitsS m = unitsTo m 8 := by
  have hf := K.fold_ins K.sto_str (namesOf m) [] .nil
  refine K.sorted_one K.sto_str _ _ hf.1 (unitsTo_sorted m) fun c => ?_
  unfold unitsS
  rw [hf.2]
  unfold namesOf unitsTo usedB
  simp only [List.not_mem_nil, false_or, List.mem_flatMap, List.mem_cons, or_false, List.mem_map, List.mem_filter, List.mem_range, List.any_eq_true, Bool.or_eq_true, decide_eq_true_eq]
  constructor
  · rintro ⟨x, hx, e | e⟩
    · obtain ⟨a, ha, e2⟩ := (h x hx).1
      exact ⟨a, ⟨ha, x, hx, .inl e2⟩, by rw [e, e2]⟩
    · obtain ⟨a, ha, e2⟩ := (h x hx).2
      exact ⟨a, ⟨ha, x, hx, .inr e2⟩, by rw [e, e2]⟩
  · rintro ⟨a, ⟨ha, x, hx, e | e⟩, rfl⟩
    · exact ⟨x, hx, .inl e.symm⟩
    · exact ⟨x, hx, .inr e.symm⟩
theorem alt_first {a b c d : ByteArray} (h : K.slt a c = true) : altS (a, b) (c, d) = true := by simp [altS, K.lex, h]
theorem alt_second {a b d : ByteArray} (h : K.slt b d = true) : altS (a, b) (a, d) = true := by simp [altS, K.lex, h, K.slt_irrefl]
theorem arcsTo_sorted (m : List Rel) : (arcsTo m 8).Pairwise (fun a b => altS a b = true) := by
  unfold arcsTo
  rw [List.pairwise_flatMap]
  refine ⟨fun a ha => ?_, ?_⟩
  · unfold arcRow
    refine List.pairwise_map.2 ?_
    have hp : ((List.range 8).filter (thereB m a)).Pairwise (· < ·) := (List.pairwise_lt_range).filter _
    refine hp.imp_of_mem ?_
    intro b c hb hc hbc
    exact alt_second (unit_less b (List.mem_range.1 (List.mem_filter.1 hb).1) c (List.mem_range.1 (List.mem_filter.1 hc).1) hbc)
  · refine (List.pairwise_lt_range (n := 8)).imp_of_mem ?_
    intro a b ha hb hab x hx y hy
    unfold arcRow at hx hy
    obtain ⟨_, _, rfl⟩ := List.mem_map.1 hx
    obtain ⟨_, _, rfl⟩ := List.mem_map.1 hy
    exact alt_first (unit_less a (List.mem_range.1 ha) b (List.mem_range.1 hb) hab)
theorem arcs_eight {m : List Rel} (h : ∀ x ∈ m, (∃ a : Nat, a < 8 ∧ x.2.1 = unitS (a : Nat)) ∧ (∃ a : Nat, a < 8 ∧ x.2.2 = unitS (a : Nat))) : arcsS m = arcsTo m 8 := by
  have hf := K.fold_ins sto_alt (arcsOf m) [] .nil
  refine K.sorted_one sto_alt _ _ hf.1 (arcsTo_sorted m) fun c => ?_
  unfold arcsS
  rw [hf.2]
  unfold arcsOf arcsTo arcRow thereB
  simp only [List.not_mem_nil, false_or, List.mem_flatMap, List.mem_map, List.mem_filter, List.mem_range, List.any_eq_true, Bool.and_eq_true, decide_eq_true_eq]
  constructor
  · rintro ⟨x, hx, e⟩
    by_cases h4 : x.1 = 4
    · rw [if_pos h4] at e; cases e
    · rw [if_neg h4] at e
      simp only [List.mem_cons, List.not_mem_nil, or_false] at e
      obtain ⟨b, hb, e1⟩ := (h x hx).1
      obtain ⟨a, ha, e2⟩ := (h x hx).2
      exact ⟨a, ha, b, ⟨hb, x, hx, ⟨h4, e2⟩, e1⟩, by rw [e, e1, e2]⟩
  · rintro ⟨a, ha, b, ⟨hb, x, hx, ⟨h4, e2⟩, e1⟩, rfl⟩
    exact ⟨x, hx, by rw [if_neg h4]; simp [e1, e2]⟩
theorem unitsTo_prefix (m : List Rel) (a : Nat) : ∀ d, ∃ t, unitsTo m (a + d) = unitsTo m a ++ t
  | 0 => ⟨[], by simp⟩
  | d + 1 => by
    obtain ⟨t, h⟩ := unitsTo_prefix m a d
    rw [← Nat.add_assoc, unitsTo_step, h, List.append_assoc]
    exact ⟨_, rfl⟩
theorem units_at {m : List Rel} {a : Nat} (ha : a < 8) (h : usedB m a = true) : (unitsTo m 8)[(unitsTo m a).length]? = some (unitS a) := by
  obtain ⟨t, ht⟩ := unitsTo_prefix m (a + 1) (8 - (a + 1))
  rw [show a + 1 + (8 - (a + 1)) = 8 by omega, unitsTo_step m a, if_pos h, List.append_assoc] at ht
  rw [ht, List.getElem?_append_right (Nat.le_refl _)]
  simp
theorem arcRow_prefix (m : List Rel) (a b : Nat) : ∀ d, ∃ t, arcRow m a (b + d) = arcRow m a b ++ t
  | 0 => ⟨[], by simp⟩
  | d + 1 => by
    obtain ⟨t, h⟩ := arcRow_prefix m a b d
    rw [← Nat.add_assoc, arcRow_step, h, List.append_assoc]
    exact ⟨_, rfl⟩
theorem arcsTo_prefix (m : List Rel) (a : Nat) : ∀ d, ∃ t, arcsTo m (a + d) = arcsTo m a ++ t
  | 0 => ⟨[], by simp⟩
  | d + 1 => by
    obtain ⟨t, h⟩ := arcsTo_prefix m a d
    rw [← Nat.add_assoc, arcsTo_step, h, List.append_assoc]
    exact ⟨_, rfl⟩
theorem arcs_at {m : List Rel} {a b : Nat} (ha : a < 8) (hb : b < 8) (h : thereB m a b = true) : (arcsTo m 8)[(arcsTo m a ++ arcRow m a b).length]? = some (unitS a, unitS b) := by
  obtain ⟨t, ht⟩ := arcsTo_prefix m (a + 1) (8 - (a + 1))
  obtain ⟨u, hu⟩ := arcRow_prefix m a (b + 1) (8 - (b + 1))
  rw [show a + 1 + (8 - (a + 1)) = 8 by omega, arcsTo_step m a] at ht
  rw [show b + 1 + (8 - (b + 1)) = 8 by omega, arcRow_step m a b, if_pos h] at hu
  rw [ht, hu]
  simp only [← List.append_assoc]
  rw [List.append_assoc (arcsTo m a ++ arcRow m a b), List.append_assoc (arcsTo m a ++ arcRow m a b), List.getElem?_append_right (Nat.le_refl _)]
  simp
theorem unitsTo_len (m : List Rel) (k : Nat) : (unitsTo m k).length ≤ k := by
  have h := List.length_filter_le (usedB m) (List.range k)
  unfold unitsTo
  simpa using h
theorem arcRow_len (m : List Rel) (a k : Nat) : (arcRow m a k).length ≤ k := by
  have h := List.length_filter_le (thereB m a) (List.range k)
  unfold arcRow
  simpa using h
theorem arcsTo_len (m : List Rel) : ∀ k, (arcsTo m k).length ≤ k * 8
  | 0 => by simp [arcsTo]
  | k + 1 => by
    have h1 := arcsTo_len m k
    have h2 := arcRow_len m k 8
    rw [arcsTo_step, List.length_append]; omega
end Go.Proofs.YtpnobpnknlpjnaaDoor
