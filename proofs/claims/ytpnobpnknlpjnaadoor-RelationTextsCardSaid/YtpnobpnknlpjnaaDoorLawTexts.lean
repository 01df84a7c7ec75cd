/- The statement about Text, walked. -/
import Derived.Test.YtpnobpnknlpjnaaDoorText
import Derived.Test.YtpnobpnknlpjnaaDoorOpenRel
import Derived.Test.YtpnobpnknlpjnaaDoorLawParses
set_option linter.unusedVariables false
set_option linter.unusedSimpArgs false
namespace Go.Proofs.YtpnobpnknlpjnaaDoor
open Go Go.RowKit

theorem cutL_one : ∀ p : List UInt8, 32 ∉ p → cutL p = [p]
  | [], _ => rfl
  | c :: r, h => by
    have hc : c ≠ 32 := fun e => h (by simp [e])
    have ih := cutL_one r (fun e => h (by simp [e]))
    rw [cutL_more hc, ih]; rfl
theorem cutL_two : ∀ (p q : List UInt8), 32 ∉ p → cutL (p ++ 32 :: q) = p :: cutL q
  | [], q, _ => cutL_blank q
  | c :: r, q, h => by
    have hc : c ≠ 32 := fun e => h (by simp [e])
    have ih := cutL_two r q (fun e => h (by simp [e]))
    rw [List.cons_append, cutL_more hc, ih]; rfl
theorem okFrom_blank : ∀ (l : List UInt8) (i : Nat), okFrom i l = true → 32 ∉ l
  | [], _, _ => by simp
  | c :: r, i, h => by
    simp only [okFrom, Bool.and_eq_true] at h
    have ih := okFrom_blank r (i + 1) h.2
    intro hm
    rcases List.mem_cons.1 hm with e | e
    · subst e
      have h1 := h.1
      unfold okAt letN moreN at h1
      simp at h1
    · exact ih e
theorem name_blank {s : ByteArray} (h : isNameS s = true) : 32 ∉ s.data.toList ∧ s ≠ ⟨#[]⟩ := by
  unfold isNameS at h
  simp only [Bool.and_eq_true, decide_eq_true_eq] at h
  refine ⟨okFrom_blank _ _ h.2, fun e => ?_⟩
  subst e
  exact absurd h.1.1 (by decide)
theorem word_blank (k : Int) : 32 ∉ (wordS k).data.toList := by
  unfold wordS
  split
  · decide
  · split
    · decide
    · split
      · decide
      · split <;> decide
theorem check_parts {x : Rel} (h : checkS x = 0) : (1 ≤ x.1 ∧ x.1 ≤ 4) ∧ isNameS x.2.1 = true ∧ isNameS x.2.2 = true := by
  unfold checkS at h
  by_cases h1 : x.1 < 1 ∨ 4 < x.1
  · rw [if_pos h1] at h; exact absurd h (by decide)
  · rw [if_neg h1] at h
    by_cases h2 : isNameS x.2.1 = false ∨ isNameS x.2.2 = false
    · rw [if_pos h2] at h; exact absurd h (by decide)
    · refine ⟨by omega, ?_, ?_⟩
      · cases e : isNameS x.2.1
        · exact absurd (.inl e) h2
        · rfl
      · cases e : isNameS x.2.2
        · exact absurd (.inr e) h2
        · rfl
theorem words_text {x : Rel} (h : checkS x = 0) : wordsS (textS x) = [x.2.1, wordS x.1, x.2.2] := by
  obtain ⟨hk, hu, hl⟩ := check_parts h
  have e : (textS x).data.toList = x.2.1.data.toList ++ 32 :: ((wordS x.1).data.toList ++ 32 :: x.2.2.data.toList) := by
    unfold textS
    simp [ByteArray.data_append]
  unfold wordsS
  rw [e, cutL_two _ _ (name_blank hu).1, cutL_two _ _ (word_blank _), cutL_one _ (name_blank hl).1]
  rfl
theorem parse_text {x : Rel} (h : checkS x = 0) : parseS (textS x) = (x, 0) := by
  obtain ⟨hk, hu, hl⟩ := check_parts h
  have hkk : (kindTo (wordS x.1) 5 : Int) = x.1 := by
    obtain ⟨k, u, l⟩ := x
    simp only at hk ⊢
    rcases (show k = 1 ∨ k = 2 ∨ k = 3 ∨ k = 4 by omega) with rfl | rfl | rfl | rfl <;> decide +kernel
  unfold parseS
  rw [words_text h, parse_some (by omega) (name_blank hu).2 (name_blank hl).2, hkk, if_pos h]
theorem text_size (x : Rel) (hu : x.2.1.size ≤ 40) (hl : x.2.2.size ≤ 40) : (textS x).size ≤ 1000 := by
  have := word_size x.1
  unfold textS
  simp only [size_app]
  have s1 : (⟨#[32]⟩ : ByteArray).size = 1 := rfl
  omega
set_option maxRecDepth 10000 in
set_option maxHeartbeats 4000000 in
theorem law_texts (x : Rel) (w : World) (hm : Mx w) (hz : x.2.1.size ≤ 9223372036854775807 ∧ x.2.2.size ≤ 9223372036854775807) :
    Calls Tryd.prog 5 #[.agg #[.int .i64 x.1, .string x.2.1, .string x.2.2]] w fun e w' => e = .returned (.bool true) ∧ Below w.heap.size w w' := by
  have HM := Lib.hid hm
  clear hm
  obtain ⟨k, u, l⟩ := x
  simp only at hz ⊢
  obtain ⟨hzu, hzl⟩ := hz
  have HB0 := Lib.hid ((Below.refl w.heap.size w).alloc (Nat.le_refl _) (.cells #[.int .i64 k, .string u, .string l] 33))
  rcases Nat.lt_or_ge 40 u.size with hu | hu
  · have h40 : (40 : Int) < (u.size : Int) := by omega
    go_enter Tryd.func5, Tryd.ntmps5
    go_wp2_with fail
    refine (known_any _ (HM.out.below HB0.out HM.out.pos)).mono ?_
    rintro e w1 ⟨rfl, hb⟩
    have c1 : w1.cell? ⟨w.heap.size, 1, none⟩ = some (.string u) := below_cell hb (by simp)
    have HB := Lib.hid (below_step HB0.out HB0.out.size hb)
    clear hb
    go_wp2_with fail
    refine (known_any _ (HM.out.below HB.out HM.out.pos)).mono ?_
    rintro e w2 ⟨rfl, hb⟩
    have HB2 := Lib.hid (below_step HB.out HB.out.size hb)
    clear hb
    go_wp2_with fail
    go_ret
    exact ⟨rfl, HB2.out⟩
  have hu40 : ¬ (40 : Int) < (u.size : Int) := by omega
  rcases Nat.lt_or_ge 40 l.size with hl | hl
  · have h40 : (40 : Int) < (l.size : Int) := by omega
    go_enter Tryd.func5, Tryd.ntmps5
    go_wp2_with fail
    refine (known_any _ (HM.out.below HB0.out HM.out.pos)).mono ?_
    rintro e w1 ⟨rfl, hb⟩
    have c1 : w1.cell? ⟨w.heap.size, 1, none⟩ = some (.string u) := below_cell hb (by simp)
    have c2 : w1.cell? ⟨w.heap.size, 2, none⟩ = some (.string l) := below_cell hb (by simp)
    have HB := Lib.hid (below_step HB0.out HB0.out.size hb)
    clear hb
    go_wp2_with fail
    refine (known_any _ (HM.out.below HB.out HM.out.pos)).mono ?_
    rintro e w2 ⟨rfl, hb⟩
    have HB2 := Lib.hid (below_step HB.out HB.out.size hb)
    clear hb
    go_wp2_with fail
    go_ret
    exact ⟨rfl, HB2.out⟩
  have hl40 : ¬ (40 : Int) < (l.size : Int) := by omega
  by_cases hc : checkS (k, u, l) = 0
  case neg =>
    have hne : (checkS (k, u, l) != 0) = true := by simp [hc]
    have HC := Lib.hid hc
    clear hc
    go_enter Tryd.func5, Tryd.ntmps5
    go_wp2_with fail
    refine (known_any _ (HM.out.below HB0.out HM.out.pos)).mono ?_
    rintro e w1 ⟨rfl, hb⟩
    have c0 : w1.cell? ⟨w.heap.size, 0, none⟩ = some (.int .i64 k) := below_cell hb (by simp)
    have c1 : w1.cell? ⟨w.heap.size, 1, none⟩ = some (.string u) := below_cell hb (by simp)
    have c2 : w1.cell? ⟨w.heap.size, 2, none⟩ = some (.string l) := below_cell hb (by simp)
    have HB := Lib.hid (below_step HB0.out HB0.out.size hb)
    clear hb
    go_wp2_with fail
    refine (text_lib (k, u, l) _ (Nat.le_trans hu (by decide)) (Nat.le_trans hl (by decide))).mono ?_
    rintro e w2 ⟨rfl, hb⟩
    rw [if_neg HC.out]
    have g0 := below_cell hb c0
    have g1 := below_cell hb c1
    have g2 := below_cell hb c2
    have HB2 := Lib.hid (below_step HB.out HB.out.size hb)
    clear hb c0 c1 c2
    go_wp2_with fail
    refine (check_law (k, u, l) _ hzu hzl).mono ?_
    rintro e w3 ⟨rfl, hb⟩
    have HB3 := Lib.hid (below_step HB2.out HB2.out.size hb)
    clear hb
    generalize checkS (k, u, l) = ce at *
    go_wp2_with fail
    go_ret
    exact ⟨rfl, HB3.out⟩
  have hsz := text_size (k, u, l) hu hl
  have hpt := parse_text (x := (k, u, l)) hc
  obtain ⟨hk, _, _⟩ := check_parts hc
  simp only at hk
  have HC := Lib.hid hc
  have HPT := Lib.hid hpt
  clear hc hpt
  go_enter Tryd.func5, Tryd.ntmps5
  go_wp2_with fail
  refine (known_any _ (HM.out.below HB0.out HM.out.pos)).mono ?_
  rintro e w1 ⟨rfl, hb⟩
  have c0 : w1.cell? ⟨w.heap.size, 0, none⟩ = some (.int .i64 k) := below_cell hb (by simp)
  have c1 : w1.cell? ⟨w.heap.size, 1, none⟩ = some (.string u) := below_cell hb (by simp)
  have c2 : w1.cell? ⟨w.heap.size, 2, none⟩ = some (.string l) := below_cell hb (by simp)
  have HB := Lib.hid (below_step HB0.out HB0.out.size hb)
  clear hb
  go_wp2_with fail
  refine (text_lib (k, u, l) _ (Nat.le_trans hu (by decide)) (Nat.le_trans hl (by decide))).mono ?_
  rintro e w2 ⟨rfl, hb⟩
  rw [if_pos HC.out, HC.out]
  have g0 := below_cell hb c0
  have g1 := below_cell hb c1
  have g2 := below_cell hb c2
  have HB2 := Lib.hid (below_step HB.out HB.out.size hb)
  clear hb c0 c1 c2
  go_wp2_with fail
  refine (check_law (k, u, l) _ hzu hzl).mono ?_
  rintro e w3 ⟨rfl, hb⟩
  rw [HC.out]
  skip
  have q0 := below_cell hb g0
  have q1 := below_cell hb g1
  have q2 := below_cell hb g2
  have HB3 := Lib.hid (below_step HB2.out HB2.out.size hb)
  clear hb g0 g1 g2
  go_wp2_with fail
  refine (parse_any (textS (k, u, l)) _ (HM.out.below HB3.out HM.out.pos) hsz).mono ?_
  rintro e w4 ⟨rfl, hb⟩
  rw [HPT.out]
  skip
  have r0 := below_cell hb q0
  have r1 := below_cell hb q1
  have r2 := below_cell hb q2
  have HB4 := Lib.hid (below_step HB3.out HB3.out.size hb)
  clear hb q0 q1 q2
  simp only
  have hw8 := word_size k
  have s1 : (⟨#[32]⟩ : ByteArray).size = 1 := rfl
  have a1 := fun W => run_add u ⟨#[32]⟩ (by omega) W
  have a2 := fun W => run_add (u ++ ⟨#[32]⟩) (wordS k) (by rw [size_app]; omega) W
  have a3 := fun W => run_add ((u ++ ⟨#[32]⟩) ++ wordS k) ⟨#[32]⟩ (by rw [size_app, size_app]; omega) W
  have a4 := fun W => run_add (((u ++ ⟨#[32]⟩) ++ wordS k) ++ ⟨#[32]⟩) l (by rw [size_app, size_app, size_app]; omega) W
  have hq2 : ((textS (k, u, l)).toList == (((((u ++ ⟨#[32]⟩) ++ wordS k) ++ ⟨#[32]⟩) ++ l)).toList) = true := by
    rw [show textS (k, u, l) = ((((u ++ ⟨#[32]⟩) ++ wordS k) ++ ⟨#[32]⟩) ++ l) from rfl]; exact beq_self_eq_true _
  have hwk : ∀ W, Calls Tryd.prog 18 #[.int .i64 k] W fun e w' => e = .returned (.string (wordS k)) ∧ w' = W := fun W => (word_any k W hk.1 hk.2).mono fun _ _ h => ⟨h.1, h.2.symm⟩
  have HWK := Lib.hid hwk
  have hq : ∀ w, (binOp .eql 33 (.agg #[.int .i64 k, .string u, .string l]) (.agg #[.int .i64 k, .string u, .string l])).run Tryd.prog w = .ok (.bool true) w := fun w => by rw [eqlR (k, u, l) (k, u, l), decide_eq_true rfl]
  clear hwk
  generalize textS (k, u, l) = T at *
  go_wp2_with fail
  have hal := (Below.refl w4.heap.size w4).alloc (Nat.le_refl _) (.cells #[.int .i64 k, .string u, .string l] 33)
  have s0 := below_cell hal r0
  have s1 := below_cell hal r1
  have s2 := below_cell hal r2
  have t0 : (w4.alloc (.cells #[.int .i64 k, .string u, .string l] 33)).cell? ⟨w4.heap.size, 0, none⟩ = some (.int .i64 k) := by simp
  have t1 : (w4.alloc (.cells #[.int .i64 k, .string u, .string l] 33)).cell? ⟨w4.heap.size, 1, none⟩ = some (.string u) := by simp
  have t2 : (w4.alloc (.cells #[.int .i64 k, .string u, .string l] 33)).cell? ⟨w4.heap.size, 2, none⟩ = some (.string l) := by simp
  have HB5 := Lib.hid (HB4.out.alloc HB4.out.size (.cells #[.int .i64 k, .string u, .string l] 33))
  clear hal r0 r1 r2
  generalize w4.alloc (.cells #[.int .i64 k, .string u, .string l] 33) = W at *
  generalize w4.heap.size = N at *
  go_quiet (exact (HWK.out _).mono fun _ _ h => ⟨h.1, _, h.2⟩)
  go_wp2_with fail
  go_ret
  exact ⟨rfl, below_drewN HB5.out _⟩
end Go.Proofs.YtpnobpnknlpjnaaDoor
