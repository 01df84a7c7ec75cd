import Derived.Test.YtpnobpnknlpjnaaDoorSpec
import Derived.Laws.BytesArg
set_option linter.unusedVariables false
set_option linter.unusedSimpArgs false
namespace Go.Proofs.YtpnobpnknlpjnaaDoor
open Go Go.RowKit
set_option maxRecDepth 10000 in
set_option maxHeartbeats 400000 in
theorem unit_any (n : Int) (w : World) (h0 : 0 ≤ n) (h1 : n ≤ 255) :
    Calls Tryd.prog 22 #[.int .u8 n] w fun e w' => e = .returned (.string (unitS n)) ∧ Below w.heap.size w w' := by
  have hcv : (convert 76 9 (.slice (some ⟨w.heap.size, 0, none⟩) 1 1)).run Tryd.prog (w.alloc (.cells #[.int .u8 (97 + n % 8)] 5)) = .ok (.string (unitS n)) (w.alloc (.cells #[.int .u8 (97 + n % 8)] 5)) := by
    have hc : ∀ i, i < 1 → (w.alloc (.cells #[.int .u8 (97 + n % 8)] 5)).cell? ⟨w.heap.size, 0 + i, none⟩ = some (.int .u8 ([97 + n % 8].getD i 0)) := fun i hi => by
      obtain rfl : i = 0 := by omega
      simp
    exact run_convert_bytes_arg _ 76 5 Tryd.underlying76 Tryd.underlying5 w.heap.size 0 1 1 [97 + n % 8] rfl (fun i hi => hc i hi) 9 Tryd.underlying9
  go_enter Tryd.func22, Tryd.ntmps22
  go_wp2
  go_ret
  exact ⟨rfl, (Below.refl _ _).alloc (Nat.le_refl _) _⟩
set_option maxRecDepth 10000 in
set_option maxHeartbeats 400000 in
theorem word_any (k : Int) (w : World) (h1 : 1 ≤ k) (h4 : k ≤ 4) :
    Calls Tryd.prog 18 #[.int .i64 k] w fun e w' => e = .returned (.string (wordS k)) ∧ w = w' := by
  have ix : ∀ w, (Instr.index 74 (.agg #[.string ⟨#[]⟩, .string ⟨#[111, 118, 101, 114, 108, 105, 101, 115]⟩, .string ⟨#[99, 117, 116, 115]⟩, .string ⟨#[105, 110, 116, 114, 117, 100, 101, 115]⟩, .string ⟨#[97, 103, 97, 105, 110, 115, 116]⟩]) (.int .i64 k)).run Tryd.prog w = .ok (.string (wordS k)) w := fun _ => by
    rcases (show k = 1 ∨ k = 2 ∨ k = 3 ∨ k = 4 by omega) with rfl | rfl | rfl | rfl <;> kernel_rfl
  go_enter Tryd.func18, Tryd.ntmps18
  go_wp2
  go_ret
  exact ⟨rfl, rfl⟩
end Go.Proofs.YtpnobpnknlpjnaaDoor
