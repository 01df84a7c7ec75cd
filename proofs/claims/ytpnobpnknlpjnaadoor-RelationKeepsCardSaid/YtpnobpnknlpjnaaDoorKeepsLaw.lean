/- Plain facts for the statement about what is kept. -/
import Derived.Test.YtpnobpnknlpjnaaDoorListsLaw
import Derived.Test.YtpnobpnknlpjnaaDoorPairsLaw
set_option linter.unusedVariables false
set_option linter.unusedSimpArgs false
namespace Go.Proofs.YtpnobpnknlpjnaaDoor
open Go Go.RowKit

theorem flip_flip (x : Rel) : flipS (flipS x) = flipS x := by
  unfold flipS
  by_cases h : x.1 = 4 ∧ K.slt x.2.2 x.2.1 = true
  · rw [if_pos h]
    simp only
    rw [if_neg]
    rintro ⟨_, h2⟩
    rw [K.slt_asymm h.2] at h2; cases h2
  · rw [if_neg h, if_neg h]
theorem mem_normal (xs : List Rel) (y : Rel) : y ∈ normalS xs ↔ ∃ x ∈ xs, flipS x = y := by
  have hf := K.fold_ins sto_rlt (xs.map flipS) [] .nil
  unfold normalS
  rw [hf.2]
  simp
theorem normal_sorted (xs : List Rel) : (normalS xs).Pairwise (fun a b => rltS a b = true) := (K.fold_ins sto_rlt (xs.map flipS) [] .nil).1
theorem normal_normal (xs : List Rel) : normalS (normalS xs) = normalS xs := by
  refine K.sorted_one sto_rlt _ _ (normal_sorted _) (normal_sorted _) fun y => ?_
  rw [mem_normal]
  constructor
  · rintro ⟨x, hx, rfl⟩
    obtain ⟨z, hz, rfl⟩ := (mem_normal xs x).1 hx
    rw [flip_flip]; exact hx
  · intro hy
    obtain ⟨z, hz, rfl⟩ := (mem_normal xs y).1 hy
    exact ⟨_, hy, flip_flip z⟩
theorem flip_names (x : Rel) (c : ByteArray) : (c = (flipS x).2.1 ∨ c = (flipS x).2.2) ↔ (c = x.2.1 ∨ c = x.2.2) := by
  unfold flipS
  split
  · exact Or.comm
  · exact Iff.rfl
theorem units_normal (xs : List Rel) : unitsS (normalS xs) = unitsS xs := by
  have h1 := K.fold_ins K.sto_str (namesOf (normalS xs)) [] .nil
  have h2 := K.fold_ins K.sto_str (namesOf xs) [] .nil
  refine K.sorted_one K.sto_str _ _ h1.1 h2.1 fun c => ?_
  unfold unitsS
  rw [h1.2, h2.2]
  unfold namesOf
  simp only [List.not_mem_nil, false_or, List.mem_flatMap, List.mem_cons, or_false]
  constructor
  · rintro ⟨y, hy, e⟩
    obtain ⟨x, hx, rfl⟩ := (mem_normal xs y).1 hy
    exact ⟨x, hx, (flip_names x c).1 e⟩
  · rintro ⟨x, hx, e⟩
    exact ⟨flipS x, (mem_normal xs _).2 ⟨x, hx, rfl⟩, (flip_names x c).2 e⟩
theorem flip_arc (x : Rel) : (if (flipS x).1 = 4 then ([] : List Arc) else [((flipS x).2.2, (flipS x).2.1)]) = if x.1 = 4 then [] else [(x.2.2, x.2.1)] := by
  unfold flipS
  by_cases h : x.1 = 4 ∧ K.slt x.2.2 x.2.1 = true
  · rw [if_pos h]; simp [h.1]
  · rw [if_neg h]
theorem arcs_normal (xs : List Rel) : arcsS (normalS xs) = arcsS xs := by
  have h1 := K.fold_ins sto_alt (arcsOf (normalS xs)) [] .nil
  have h2 := K.fold_ins sto_alt (arcsOf xs) [] .nil
  refine K.sorted_one sto_alt _ _ h1.1 h2.1 fun c => ?_
  unfold arcsS
  rw [h1.2, h2.2]
  unfold arcsOf
  simp only [List.not_mem_nil, false_or, List.mem_flatMap]
  constructor
  · rintro ⟨y, hy, e⟩
    obtain ⟨x, hx, rfl⟩ := (mem_normal xs y).1 hy
    exact ⟨x, hx, by rw [flip_arc] at e; exact e⟩
  · rintro ⟨x, hx, e⟩
    exact ⟨flipS x, (mem_normal xs _).2 ⟨x, hx, rfl⟩, by rw [flip_arc]; exact e⟩
theorem check_flip {x : Rel} (h : checkS x = 0) : checkS (flipS x) = 0 := by
  unfold flipS
  split
  · unfold checkS at *
    by_cases h1 : x.1 < 1 ∨ 4 < x.1
    · rw [if_pos h1] at h; exact absurd h (by decide)
    · rw [if_neg h1] at h ⊢
      by_cases h2 : isNameS x.2.1 = false ∨ isNameS x.2.2 = false
      · rw [if_pos h2] at h; exact absurd h (by decide)
      · rw [if_neg h2] at h
        rw [if_neg (fun c => h2 c.symm)]
        by_cases h3 : x.2.1 = x.2.2
        · rw [if_pos h3] at h; exact absurd h (by decide)
        · rw [if_neg (fun c => h3 c.symm)]
  · exact h
theorem normal_ok {xs : List Rel} (h : ∀ x ∈ xs, checkS x = 0) : ∀ y ∈ normalS xs, checkS y = 0 := by
  intro y hy
  obtain ⟨x, hx, rfl⟩ := (mem_normal xs y).1 hy
  exact check_flip (h x hx)
theorem normal_all {xs : List Rel} (h : ∀ x ∈ xs, checkS x = 0) (hl : xs.length ≤ 200) : checkAllS (normalS xs) = 0 := by
  have h2 := normalS_len xs
  unfold checkAllS
  rw [if_neg (by omega), firstS_zero _ (normal_ok h)]
theorem normal_size {xs : List Rel} (h : ∀ x ∈ xs, x.2.1.size ≤ 9223372036854775807 ∧ x.2.2.size ≤ 9223372036854775807) : ∀ y ∈ normalS xs, y.2.1.size ≤ 9223372036854775807 ∧ y.2.2.size ≤ 9223372036854775807 := by
  intro y hy
  obtain ⟨x, hx, rfl⟩ := (mem_normal xs y).1 hy
  unfold flipS
  split
  · exact (h x hx).symm
  · exact h x hx
theorem mem_oppRow {xs : List Rel} {i : Nat} : ∀ {k : Nat} {p : Int × Int}, p ∈ oppRow xs i k → ∃ (j : Nat) (x y : Rel), p = ((i : Int), (j : Int)) ∧ xs[i]? = some x ∧ xs[j]? = some y ∧ oppB x y = true
  | 0, p, h => by simp [oppRow] at h
  | k + 1, p, h => by
    unfold oppRow at h
    rcases List.mem_append.1 h with h | h
    · exact mem_oppRow h
    · split at h
      · split at h
        · rename_i x y hx hy
          split at h
          · rename_i ho
            refine ⟨k, x, y, by simpa using h, hx, hy, ho⟩
          · simp at h
        · simp at h
      · simp at h
theorem mem_oppTo {xs : List Rel} : ∀ {k : Nat} {p : Int × Int}, p ∈ oppTo xs k → ∃ (i j : Nat) (x y : Rel), p = ((i : Int), (j : Int)) ∧ xs[i]? = some x ∧ xs[j]? = some y ∧ oppB x y = true
  | 0, p, h => by simp [oppTo] at h
  | k + 1, p, h => by
    unfold oppTo at h
    rcases List.mem_append.1 h with h | h
    · exact mem_oppTo h
    · obtain ⟨j, x, y, h1, h2, h3, h4⟩ := mem_oppRow h
      exact ⟨k, j, x, y, h1, h2, h3, h4⟩
theorem mem_opposed {xs : List Rel} {p : Int × Int} (h : p ∈ opposedS xs) : ∃ (i j : Nat) (x y : Rel), p = ((i : Int), (j : Int)) ∧ xs[i]? = some x ∧ xs[j]? = some y ∧ x.2.1 = y.2.2 ∧ x.2.2 = y.2.1 := by
  obtain ⟨i, j, x, y, h1, h2, h3, h4⟩ := mem_oppTo h
  unfold oppB at h4
  simp only [Bool.and_eq_true, decide_eq_true_eq] at h4
  exact ⟨i, j, x, y, h1, h2, h3, h4.1.2, h4.2⟩
end Go.Proofs.YtpnobpnknlpjnaaDoor
