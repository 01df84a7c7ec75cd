/- relation.Text. -/
import Derived.Test.YtpnobpnknlpjnaaDoorParse
import Derived.Test.YtpnobpnknlpjnaaDoorQTail
import Derived.Deep.RegionHeld3
set_option linter.unusedVariables false
set_option linter.unusedSimpArgs false
namespace Go.Proofs.YtpnobpnknlpjnaaDoor
open Go Go.RowKit

theorem run_add (a b : ByteArray) (h : a.size + b.size ≤ 9223372036854775807) (w : World) : (binOp .add 9 (.string a) (.string b)).run Tryd.prog w = .ok (.string (a ++ b)) w := by
  have hn : ¬ (((a.size + b.size : Nat) : Int) > IntKind.i64.max) := by
    rw [show IntKind.i64.max = 9223372036854775807 from rfl]; omega
  have := Tryd.underlying9
  simp only [binOp]
  simp [Op.stringOp, go_sem, hn]
  all_goals omega
theorem size_app (a b : ByteArray) : (a ++ b).size = a.size + b.size := ByteArray.size_append
theorem word_size (k : Int) : (wordS k).size ≤ 8 := by
  unfold wordS
  split
  · decide
  · split
    · decide
    · split
      · decide
      · split <;> decide
def textS (x : Rel) : ByteArray := ((((x.2.1 ++ ⟨#[32]⟩) ++ wordS x.1) ++ ⟨#[32]⟩) ++ x.2.2)
set_option maxRecDepth 10000 in
set_option maxHeartbeats 2000000 in
theorem text_lib (x : Rel) (w : World) (hu : x.2.1.size ≤ 1000) (hl : x.2.2.size ≤ 1000) :
    Calls Tryd.prog 20 #[.agg #[.int .i64 x.1, .string x.2.1, .string x.2.2]] w fun e w' => e = .returned (.tuple #[.string (if checkS x = 0 then textS x else ⟨#[]⟩), .int .i64 (checkS x)]) ∧ Below w.heap.size w w' := by
  obtain ⟨k, u, l⟩ := x
  simp only at hu hl
  by_cases hc : checkS (k, u, l) = 0
  case neg =>
    have hne : (checkS (k, u, l) != 0) = true := by simp [hc]
    rw [if_neg hc]
    clear hc
    simp only
    go_enter Tryd.func20, Tryd.ntmps20
    go_wp2_with fail
    refine (check_lib (k, u, l) _ (Nat.le_trans hu (by decide)) (Nat.le_trans hl (by decide))).mono ?_
    rintro e w1 ⟨rfl, hb1⟩
    have HB1 := Lib.hid (below_step ((Below.refl _ _).alloc (Nat.le_refl _) _) (by simp) hb1)
    clear hb1
    go_wp2_with fail
    go_ret2
    exact ⟨rfl, HB1.out⟩
  have hk : 1 ≤ k ∧ k ≤ 4 := by
    unfold checkS at hc
    by_cases h : k < 1 ∨ 4 < k
    · rw [if_pos h] at hc; exact absurd hc (by decide)
    · omega
  rw [if_pos hc, hc]
  have HC := Lib.hid hc
  clear hc
  have ix : ∀ w, (Instr.index 71 kindV (.int .i64 (k - 1))).run Tryd.prog w = .ok (.string (wordS k)) w := fun _ => by
    rcases (show k = 1 ∨ k = 2 ∨ k = 3 ∨ k = 4 by omega) with rfl | rfl | rfl | rfl <;> kernel_rfl
  simp only
  go_enter Tryd.func20, Tryd.ntmps20
  go_wp2_with fail
  refine (check_lib (k, u, l) _ (Nat.le_trans hu (by decide)) (Nat.le_trans hl (by decide))).mono ?_
  rintro e w1 ⟨rfl, hb1⟩
  rw [HC.out]
  have c0 : w1.cell? ⟨w.heap.size, 0, none⟩ = some (.int .i64 k) := below_cell hb1 (by simp)
  have c1 : w1.cell? ⟨w.heap.size, 1, none⟩ = some (.string u) := below_cell hb1 (by simp)
  have c2 : w1.cell? ⟨w.heap.size, 2, none⟩ = some (.string l) := below_cell hb1 (by simp)
  have HB1 := Lib.hid (below_step ((Below.refl _ _).alloc (Nat.le_refl _) _) (by simp) hb1)
  clear hb1
  go_wp2_with fail
  have k0 := cell_regrown c0
  have k1 := cell_regrown c1
  have k2 := cell_regrown c2
  have hw8 := word_size k
  have s1 : (⟨#[32]⟩ : ByteArray).size = 1 := rfl
  have a1 := fun W => run_add u ⟨#[32]⟩ (by omega) W
  have a2 := fun W => run_add (u ++ ⟨#[32]⟩) (wordS k) (by rw [size_app]; omega) W
  have a3 := fun W => run_add ((u ++ ⟨#[32]⟩) ++ wordS k) ⟨#[32]⟩ (by rw [size_app, size_app]; omega) W
  have a4 := fun W => run_add (((u ++ ⟨#[32]⟩) ++ wordS k) ++ ⟨#[32]⟩) l (by rw [size_app, size_app, size_app]; omega) W
  have cQ := low_call (w := w1) (fun W _ => kinds_any W)
  refine wp_region_low_tail 13 (by kernel_rfl) (by kernel_rfl) ?_
  simp only [List.take_succ_cons, List.take_zero, List.drop_succ_cons, List.drop_zero, Act.put, Act.eval, Array.getD_eq_getD_getElem?]
  repeat (first | go_big_quiet_step (exact cQ _ _) | quiet_step (exact cQ _ _))
  refine wpQuiet_nil ?_
  intro w2 hw2
  have hb2 := low_of hw2
  have HB2 := Lib.hid (below_step HB1.out HB1.out.size hb2)
  clear hw2 hb2
  go_wp2_with fail
  go_ret2
  exact ⟨rfl, HB2.out⟩
end Go.Proofs.YtpnobpnknlpjnaaDoor
