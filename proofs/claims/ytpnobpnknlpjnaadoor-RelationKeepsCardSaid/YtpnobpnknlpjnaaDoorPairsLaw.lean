/- Plain facts for the statement about pairs. -/
import Derived.Test.YtpnobpnknlpjnaaDoorOpposed
set_option linter.unusedVariables false
set_option linter.unusedSimpArgs false
namespace Go.Proofs.YtpnobpnknlpjnaaDoor
open Go Go.RowKit

theorem placesTo_prefix (f : Rel → Bool) (xs : List Rel) (i : Nat) : ∀ d, ∃ t, placesTo f xs (i + d) = placesTo f xs i ++ t
  | 0 => ⟨[], by simp⟩
  | d + 1 => by
    obtain ⟨t, h⟩ := placesTo_prefix f xs i d
    rw [← Nat.add_assoc, placesTo, h, List.append_assoc]
    exact ⟨_, rfl⟩
theorem placesTo_at {f : Rel → Bool} {xs : List Rel} {i : Nat} {x : Rel} (h : xs[i]? = some x) (hf : f x = true) : (placesTo f xs xs.length)[(placesTo f xs i).length]? = some (i : Int) := by
  have hi := lt_of_get h
  obtain ⟨t, ht⟩ := placesTo_prefix f xs (i + 1) (xs.length - (i + 1))
  rw [show i + 1 + (xs.length - (i + 1)) = xs.length by omega, placesTo_step h, if_pos hf, List.append_assoc] at ht
  rw [ht, List.getElem?_append_right (Nat.le_refl _)]
  simp
theorem oppTo_prefix (xs : List Rel) (i : Nat) : ∀ d, ∃ t, oppTo xs (i + d) = oppTo xs i ++ t
  | 0 => ⟨[], by simp⟩
  | d + 1 => by
    obtain ⟨t, h⟩ := oppTo_prefix xs i d
    rw [← Nat.add_assoc, oppTo, h, List.append_assoc]
    exact ⟨_, rfl⟩
theorem oppRow_prefix (xs : List Rel) (i k : Nat) : ∀ d, ∃ t, oppRow xs i (k + d) = oppRow xs i k ++ t
  | 0 => ⟨[], by simp⟩
  | d + 1 => by
    obtain ⟨t, h⟩ := oppRow_prefix xs i k d
    rw [← Nat.add_assoc, oppRow, h, List.append_assoc]
    exact ⟨_, rfl⟩
theorem opp_at {xs : List Rel} {i k : Nat} {x y : Rel} (hik : i < k) (hx : xs[i]? = some x) (hy : xs[k]? = some y) (hf : oppB x y = true) : (opposedS xs)[(oppTo xs i ++ oppRow xs i k).length]? = some ((i : Int), (k : Int)) := by
  have hi := lt_of_get hx
  have hk := lt_of_get hy
  obtain ⟨t, ht⟩ := oppTo_prefix xs (i + 1) (xs.length - (i + 1))
  obtain ⟨u, hu⟩ := oppRow_prefix xs i (k + 1) (xs.length - (k + 1))
  rw [show i + 1 + (xs.length - (i + 1)) = xs.length by omega, oppTo] at ht
  rw [show k + 1 + (xs.length - (k + 1)) = xs.length by omega, oppRow_step hik hx hy, if_pos hf] at hu
  unfold opposedS
  rw [ht, hu]
  simp only [← List.append_assoc]
  rw [List.append_assoc (oppTo xs i ++ oppRow xs i k), List.append_assoc (oppTo xs i ++ oppRow xs i k), List.getElem?_append_right (Nat.le_refl _)]
  simp
end Go.Proofs.YtpnobpnknlpjnaaDoor
