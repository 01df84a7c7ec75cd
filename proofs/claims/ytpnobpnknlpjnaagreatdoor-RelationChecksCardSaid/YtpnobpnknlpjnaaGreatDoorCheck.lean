import Derived.Test.YtpnobpnknlpjnaaGreatDoorNameA
import Derived.Test.YtpnobpnknlpjnaaGreatDoorNameB
set_option linter.unusedVariables false
set_option linter.unusedSimpArgs false
namespace Go.Proofs.YtpnobpnknlpjnaaGreatDoor
open Go Go.RowKit

set_option maxRecDepth 10000 in
set_option maxHeartbeats 1000000 in
theorem check_law (x : Rel) (w : World) (hu : x.2.1.size ≤ 9223372036854775807) (hl : x.2.2.size ≤ 9223372036854775807) :
    Calls Tryz.prog 6 #[.agg #[.int .i64 x.1, .string x.2.1, .string x.2.2]] w fun e w' => e = .returned (.int .i64 (checkS x)) ∧ Below w.heap.size w w' := by
  obtain ⟨kd, up, lo⟩ := x
  simp only at hu hl
  have fin : ∀ r : Int, checkS (kd, up, lo) = r → Ending.returned (.int .i64 r) = .returned (.int .i64 (checkS (kd, up, lo))) := fun r h => by rw [h]
  have FIN := Lib.hid fin
  clear fin
  simp only
  by_cases h1 : kd < 1
  · have hr : checkS (kd, up, lo) = 12 := by simp [checkS, h1]
    have HR := Lib.hid hr
    clear hr
    go_enter Tryz.func6, Tryz.ntmps6
    go_wp2_with fail
    go_ret
    exact ⟨ret_i HR.out.symm, (Below.refl _ _).alloc (Nat.le_refl _) _⟩
  by_cases h4 : 4 < kd
  · have hr : checkS (kd, up, lo) = 12 := by simp [checkS, h4]
    have HR := Lib.hid hr
    clear hr
    go_enter Tryz.func6, Tryz.ntmps6
    go_wp2_with fail
    go_ret
    exact ⟨ret_i HR.out.symm, (Below.refl _ _).alloc (Nat.le_refl _) _⟩
  have k1 : 1 ≤ kd := by omega
  have k4 : kd ≤ 4 := by omega
  cases hn : isNameS up with
  | false =>
    have hr : checkS (kd, up, lo) = 8 := by simp [checkS, h1, h4, hn]
    have HR := Lib.hid hr
    have HN := Lib.hid hn
    clear hr hn h1 h4
    go_enter Tryz.func6, Tryz.ntmps6
    go_wp2_with fail
    refine (isName_law up _ hu).mono ?_
    rintro e w1 ⟨rfl, rfl⟩
    rw [HN.out]
    go_wp2_with fail
    go_ret
    exact ⟨ret_i HR.out.symm, (Below.refl _ _).alloc (Nat.le_refl _) _⟩
  | true =>
    cases hm : isNameS lo with
    | false =>
      have hr : checkS (kd, up, lo) = 8 := by simp [checkS, h1, h4, hn, hm]
      have HR := Lib.hid hr
      have HN := Lib.hid hn
      have HM := Lib.hid hm
      clear hr hn hm h1 h4
      go_enter Tryz.func6, Tryz.ntmps6
      go_wp2_with fail
      refine (isName_law up _ hu).mono ?_
      rintro e w1 ⟨rfl, rfl⟩
      rw [HN.out]
      skip
      go_wp2_with fail
      refine (isName_law lo _ hl).mono ?_
      rintro e w1 ⟨rfl, rfl⟩
      rw [HM.out]
      go_wp2_with fail
      go_ret
      exact ⟨ret_i HR.out.symm, (Below.refl _ _).alloc (Nat.le_refl _) _⟩
    | true =>
      by_cases he : up = lo
      · have hr : checkS (kd, up, lo) = 14 := by simp [checkS, h1, h4, hn, hm, he]
        have hb : (up.toList == lo.toList) = true := by rw [he]; simp
        have HR := Lib.hid hr
        have HN := Lib.hid hn
        have HM := Lib.hid hm
        clear hr hn hm h1 h4 he
        go_enter Tryz.func6, Tryz.ntmps6
        go_wp2_with fail
        refine (isName_law up _ hu).mono ?_
        rintro e w1 ⟨rfl, rfl⟩
        rw [HN.out]
        skip
        go_wp2_with fail
        refine (isName_law lo _ hl).mono ?_
        rintro e w1 ⟨rfl, rfl⟩
        rw [HM.out]
        skip
        go_wp2_with fail
        go_ret
        exact ⟨ret_i HR.out.symm, (Below.refl _ _).alloc (Nat.le_refl _) _⟩
      · have hr : checkS (kd, up, lo) = 0 := by simp [checkS, h1, h4, hn, hm, he]
        have hb : (up.toList == lo.toList) = false := by rw [K.beq_str]; simp [he]
        have HR := Lib.hid hr
        have HN := Lib.hid hn
        have HM := Lib.hid hm
        clear hr hn hm h1 h4 he
        go_enter Tryz.func6, Tryz.ntmps6
        go_wp2_with fail
        refine (isName_law up _ hu).mono ?_
        rintro e w1 ⟨rfl, rfl⟩
        rw [HN.out]
        skip
        go_wp2_with fail
        refine (isName_law lo _ hl).mono ?_
        rintro e w1 ⟨rfl, rfl⟩
        rw [HM.out]
        skip
        go_wp2_with fail
        go_ret
        exact ⟨ret_i HR.out.symm, (Below.refl _ _).alloc (Nat.le_refl _) _⟩

set_option maxRecDepth 10000 in
set_option maxHeartbeats 1000000 in
theorem check_lib (x : Rel) (w : World) (hu : x.2.1.size ≤ 9223372036854775807) (hl : x.2.2.size ≤ 9223372036854775807) :
    Calls Tryz.prog 5 #[.agg #[.int .i64 x.1, .string x.2.1, .string x.2.2]] w fun e w' => e = .returned (.int .i64 (checkS x)) ∧ Below w.heap.size w w' := by
  obtain ⟨kd, up, lo⟩ := x
  simp only at hu hl
  have fin : ∀ r : Int, checkS (kd, up, lo) = r → Ending.returned (.int .i64 r) = .returned (.int .i64 (checkS (kd, up, lo))) := fun r h => by rw [h]
  have FIN := Lib.hid fin
  clear fin
  simp only
  by_cases h1 : kd < 1
  · have hr : checkS (kd, up, lo) = 12 := by simp [checkS, h1]
    have HR := Lib.hid hr
    clear hr
    go_enter Tryz.func5, Tryz.ntmps5
    go_wp2_with fail
    go_ret
    exact ⟨ret_i HR.out.symm, (Below.refl _ _).alloc (Nat.le_refl _) _⟩
  by_cases h4 : 4 < kd
  · have hr : checkS (kd, up, lo) = 12 := by simp [checkS, h4]
    have HR := Lib.hid hr
    clear hr
    go_enter Tryz.func5, Tryz.ntmps5
    go_wp2_with fail
    go_ret
    exact ⟨ret_i HR.out.symm, (Below.refl _ _).alloc (Nat.le_refl _) _⟩
  have k1 : 1 ≤ kd := by omega
  have k4 : kd ≤ 4 := by omega
  cases hn : isNameS up with
  | false =>
    have hr : checkS (kd, up, lo) = 8 := by simp [checkS, h1, h4, hn]
    have HR := Lib.hid hr
    have HN := Lib.hid hn
    clear hr hn h1 h4
    go_enter Tryz.func5, Tryz.ntmps5
    go_wp2_with fail
    refine (isName_lib up _ hu).mono ?_
    rintro e w1 ⟨rfl, hb1⟩
    rw [HN.out]
    go_wp2_with fail
    go_ret
    exact ⟨ret_i HR.out.symm, below_step ((Below.refl _ _).alloc (Nat.le_refl _) _) (by first | simp | (have := hb1.size; simp at this; omega)) hb1⟩
  | true =>
    cases hm : isNameS lo with
    | false =>
      have hr : checkS (kd, up, lo) = 8 := by simp [checkS, h1, h4, hn, hm]
      have HR := Lib.hid hr
      have HN := Lib.hid hn
      have HM := Lib.hid hm
      clear hr hn hm h1 h4
      go_enter Tryz.func5, Tryz.ntmps5
      go_wp2_with fail
      refine (isName_lib up _ hu).mono ?_
      rintro e w1 ⟨rfl, hb1⟩
      rw [HN.out]
      have c10 : w1.cell? ⟨w.heap.size, 0, none⟩ = some (.int .i64 kd) := below_cell hb1 (by simp); have c11 : w1.cell? ⟨w.heap.size, 0 + 1, none⟩ = some (.string up) := below_cell hb1 (by simp); have c12 : w1.cell? ⟨w.heap.size, 0 + 2, none⟩ = some (.string lo) := below_cell hb1 (by simp)
      go_wp2_with fail
      refine (isName_lib lo _ hl).mono ?_
      rintro e w2 ⟨rfl, hb2⟩
      rw [HM.out]
      go_wp2_with fail
      go_ret
      exact ⟨ret_i HR.out.symm, below_step (below_step ((Below.refl _ _).alloc (Nat.le_refl _) _) (by first | simp | (have := hb1.size; simp at this; omega)) hb1) (by first | simp | (have := hb1.size; simp at this; omega)) hb2⟩
    | true =>
      by_cases he : up = lo
      · have hr : checkS (kd, up, lo) = 14 := by simp [checkS, h1, h4, hn, hm, he]
        have hb : (up.toList == lo.toList) = true := by rw [he]; simp
        have HR := Lib.hid hr
        have HN := Lib.hid hn
        have HM := Lib.hid hm
        clear hr hn hm h1 h4 he
        go_enter Tryz.func5, Tryz.ntmps5
        go_wp2_with fail
        refine (isName_lib up _ hu).mono ?_
        rintro e w1 ⟨rfl, hb1⟩
        rw [HN.out]
        have c10 : w1.cell? ⟨w.heap.size, 0, none⟩ = some (.int .i64 kd) := below_cell hb1 (by simp); have c11 : w1.cell? ⟨w.heap.size, 0 + 1, none⟩ = some (.string up) := below_cell hb1 (by simp); have c12 : w1.cell? ⟨w.heap.size, 0 + 2, none⟩ = some (.string lo) := below_cell hb1 (by simp)
        go_wp2_with fail
        refine (isName_lib lo _ hl).mono ?_
        rintro e w2 ⟨rfl, hb2⟩
        rw [HM.out]
        have c20 : w2.cell? ⟨w.heap.size, 0, none⟩ = some (.int .i64 kd) := below_cell hb2 c10; have c21 : w2.cell? ⟨w.heap.size, 0 + 1, none⟩ = some (.string up) := below_cell hb2 c11; have c22 : w2.cell? ⟨w.heap.size, 0 + 2, none⟩ = some (.string lo) := below_cell hb2 c12
        go_wp2_with fail
        go_ret
        exact ⟨ret_i HR.out.symm, below_step (below_step ((Below.refl _ _).alloc (Nat.le_refl _) _) (by first | simp | (have := hb1.size; simp at this; omega)) hb1) (by first | simp | (have := hb1.size; simp at this; omega)) hb2⟩
      · have hr : checkS (kd, up, lo) = 0 := by simp [checkS, h1, h4, hn, hm, he]
        have hb : (up.toList == lo.toList) = false := by rw [K.beq_str]; simp [he]
        have HR := Lib.hid hr
        have HN := Lib.hid hn
        have HM := Lib.hid hm
        clear hr hn hm h1 h4 he
        go_enter Tryz.func5, Tryz.ntmps5
        go_wp2_with fail
        refine (isName_lib up _ hu).mono ?_
        rintro e w1 ⟨rfl, hb1⟩
        rw [HN.out]
        have c10 : w1.cell? ⟨w.heap.size, 0, none⟩ = some (.int .i64 kd) := below_cell hb1 (by simp); have c11 : w1.cell? ⟨w.heap.size, 0 + 1, none⟩ = some (.string up) := below_cell hb1 (by simp); have c12 : w1.cell? ⟨w.heap.size, 0 + 2, none⟩ = some (.string lo) := below_cell hb1 (by simp)
        go_wp2_with fail
        refine (isName_lib lo _ hl).mono ?_
        rintro e w2 ⟨rfl, hb2⟩
        rw [HM.out]
        have c20 : w2.cell? ⟨w.heap.size, 0, none⟩ = some (.int .i64 kd) := below_cell hb2 c10; have c21 : w2.cell? ⟨w.heap.size, 0 + 1, none⟩ = some (.string up) := below_cell hb2 c11; have c22 : w2.cell? ⟨w.heap.size, 0 + 2, none⟩ = some (.string lo) := below_cell hb2 c12
        go_wp2_with fail
        go_ret
        exact ⟨ret_i HR.out.symm, below_step (below_step ((Below.refl _ _).alloc (Nat.le_refl _) _) (by first | simp | (have := hb1.size; simp at this; omega)) hb1) (by first | simp | (have := hb1.size; simp at this; omega)) hb2⟩
end Go.Proofs.YtpnobpnknlpjnaaGreatDoor
