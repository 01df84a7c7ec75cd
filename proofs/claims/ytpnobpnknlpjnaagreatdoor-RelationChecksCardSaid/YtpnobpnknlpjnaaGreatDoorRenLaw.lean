/- Renaming and leaving out, in plain words. -/
import Derived.Test.YtpnobpnknlpjnaaGreatDoorPairs
import Derived.Test.YtpnobpnknlpjnaaGreatDoorLawNormals
set_option linter.unusedVariables false
set_option linter.unusedSimpArgs false
namespace Go.Proofs.YtpnobpnknlpjnaaGreatDoor
open Go Go.RowKit

def renT (a b s : ByteArray) : ByteArray := if s = a then b else s
def renS (a b : ByteArray) (x : Rel) : Rel := (x.1, renT a b x.2.1, renT a b x.2.2)
def badB (x : Rel) : Bool := decide (x.2.1 = x.2.2)
def renBad (a b : ByteArray) (xs : List Rel) : Bool := (xs.map (renS a b)).any badB
def renameE (xs : List Rel) (a b : ByteArray) : Int := if checkNamesS xs [a, b] = 0 then if renBad a b xs = true then 14 else 0 else checkNamesS xs [a, b]
def hasB (u : ByteArray) (x : Rel) : Bool := decide (x.2.1 = u) || decide (x.2.2 = u)
def dropS (u : ByteArray) (xs : List Rel) : List Rel := xs.filter fun x => !hasB u x
theorem renBad_take {a b : ByteArray} {xs : List Rel} {k : Nat} {x : Rel} (hx : xs[k]? = some x) (h : badB (renS a b x) = true) : renBad a b xs = true := by
  unfold renBad
  rw [List.any_eq_true]
  exact ⟨_, List.mem_map.2 ⟨x, List.mem_of_getElem? hx, rfl⟩, h⟩
theorem renBad_step {a b : ByteArray} {xs : List Rel} {k : Nat} {x : Rel} (hx : xs[k]? = some x) : renBad a b (xs.take (k + 1)) = (renBad a b (xs.take k) || badB (renS a b x)) := by
  rw [List.take_add_one, hx]
  simp [renBad]
theorem map_step {a b : ByteArray} {xs : List Rel} {k : Nat} {x : Rel} (hx : xs[k]? = some x) : (xs.take (k + 1)).map (renS a b) = (xs.take k).map (renS a b) ++ [renS a b x] := by
  rw [List.take_add_one, hx]
  simp
theorem drop_step {u : ByteArray} {xs : List Rel} {k : Nat} {x : Rel} (hx : xs[k]? = some x) : dropS u (xs.take (k + 1)) = dropS u (xs.take k) ++ if hasB u x = true then [] else [x] := by
  rw [List.take_add_one, hx]
  unfold dropS
  by_cases h : hasB u x = true <;> simp [h]
theorem names_two {xs : List Rel} {a b : ByteArray} (h : checkAllS xs = 0) (ha : isNameS a = true) (hb : isNameS b = true) : checkNamesS xs [a, b] = 0 := by
  unfold checkNamesS allNames
  simp [h, ha, hb]
theorem names_one {xs : List Rel} {a : ByteArray} (h : checkAllS xs = 0) (ha : isNameS a = true) : checkNamesS xs [a] = 0 := by
  unfold checkNamesS allNames
  simp [h, ha]
theorem ren_back {a n : ByteArray} {x : Rel} (h1 : x.2.1 ≠ n) (h2 : x.2.2 ≠ n) : renS n a (renS a n x) = x := by
  obtain ⟨k, u, l⟩ := x
  have e : ∀ s, s ≠ n → renT n a (renT a n s) = s := by
    intro s hs
    unfold renT
    by_cases h : s = a
    · simp [h]
    · simp [h, hs]
  unfold renS
  simp only at h1 h2 ⊢
  rw [e u h1, e l h2]
theorem ren_fresh {a n : ByteArray} {x : Rel} (h1 : x.2.1 ≠ n) (h2 : x.2.2 ≠ n) (h3 : x.2.1 ≠ x.2.2) : badB (renS a n x) = false := by
  obtain ⟨k, u, l⟩ := x
  unfold badB renS renT
  simp only at h1 h2 h3 ⊢
  rw [decide_eq_false_iff_not]
  by_cases hu : u = a <;> by_cases hl : l = a
  · exact absurd (hu.trans hl.symm) h3
  · rw [if_pos hu, if_neg hl]; exact fun e => h2 e.symm
  · rw [if_neg hu, if_pos hl]; exact h1
  · rw [if_neg hu, if_neg hl]; exact h3
theorem ren_fresh_all {a n : ByteArray} {xs : List Rel} (h : ∀ x ∈ xs, x.2.1 ≠ n ∧ x.2.2 ≠ n ∧ x.2.1 ≠ x.2.2) : renBad a n xs = false := by
  unfold renBad
  rw [List.any_eq_false]
  intro y hy
  obtain ⟨x, hx, rfl⟩ := List.mem_map.1 hy
  obtain ⟨h1, h2, h3⟩ := h x hx
  simp [ren_fresh h1 h2 h3]
theorem ren_back_all {a n : ByteArray} {xs : List Rel} (h : ∀ x ∈ xs, x.2.1 ≠ n ∧ x.2.2 ≠ n ∧ x.2.1 ≠ x.2.2) : (xs.map (renS a n)).map (renS n a) = xs := by
  rw [List.map_map]
  conv => rhs; rw [← List.map_id xs]
  refine List.map_congr_left fun x hx => ?_
  obtain ⟨h1, h2, _⟩ := h x hx
  exact ren_back h1 h2
theorem ren_back_bad {a n : ByteArray} {xs : List Rel} (h : ∀ x ∈ xs, x.2.1 ≠ n ∧ x.2.2 ≠ n ∧ x.2.1 ≠ x.2.2) : renBad n a (xs.map (renS a n)) = false := by
  unfold renBad
  rw [ren_back_all h, List.any_eq_false]
  intro x hx
  obtain ⟨_, _, h3⟩ := h x hx
  simp [badB, h3]
theorem ren_size {a b : ByteArray} {xs : List Rel} (hb : b.size ≤ 9223372036854775807) (h : ∀ x ∈ xs, x.2.1.size ≤ 9223372036854775807 ∧ x.2.2.size ≤ 9223372036854775807) : ∀ y ∈ xs.map (renS a b), y.2.1.size ≤ 9223372036854775807 ∧ y.2.2.size ≤ 9223372036854775807 := by
  intro y hy
  obtain ⟨x, hx, rfl⟩ := List.mem_map.1 hy
  have e : ∀ s : ByteArray, s.size ≤ 9223372036854775807 → (renT a b s).size ≤ 9223372036854775807 := by
    intro s hs
    unfold renT
    split
    · exact hb
    · exact hs
  exact ⟨e _ (h x hx).1, e _ (h x hx).2⟩
theorem ren_check {a b : ByteArray} {x : Rel} (hb : isNameS b = true) (h : checkS x = 0) (hn : badB (renS a b x) = false) : checkS (renS a b x) = 0 := by
  have e : ∀ s : ByteArray, isNameS s = true → isNameS (renT a b s) = true := by
    intro s hs
    unfold renT
    split
    · exact hb
    · exact hs
  unfold checkS at h ⊢
  by_cases h1 : x.1 < 1 ∨ 4 < x.1
  · rw [if_pos h1] at h; exact absurd h (by decide)
  · rw [if_neg h1] at h
    by_cases h2 : isNameS x.2.1 = false ∨ isNameS x.2.2 = false
    · rw [if_pos h2] at h; exact absurd h (by decide)
    · have n1 : isNameS x.2.1 = true := by cases e : isNameS x.2.1 <;> simp_all
      have n2 : isNameS x.2.2 = true := by cases e : isNameS x.2.2 <;> simp_all
      rw [show (renS a b x).1 = x.1 from rfl, if_neg h1, if_neg (by simp [renS, e _ n1, e _ n2]), if_neg]
      intro c
      simp [badB, c] at hn
theorem ren_all {a b : ByteArray} {xs : List Rel} (hb : isNameS b = true) (h : ∀ x ∈ xs, checkS x = 0) (hn : renBad a b xs = false) (hl : xs.length ≤ 200) : checkAllS (xs.map (renS a b)) = 0 := by
  unfold checkAllS
  rw [if_neg (by simp; omega), firstS_zero]
  intro y hy
  unfold renBad at hn
  rw [List.any_eq_false] at hn
  have h3 := hn y hy
  obtain ⟨x, hx, rfl⟩ := List.mem_map.1 hy
  exact ren_check hb (h x hx) (by simpa using h3)
end Go.Proofs.YtpnobpnknlpjnaaGreatDoor
