/- A list of right relations. -/
import Derived.Test.YtpnobpnknlpjnaaGreatDoorSpec
namespace Go.Proofs.YtpnobpnknlpjnaaGreatDoor
open Go Go.RowKit
theorem firstS_zero : ∀ l : List Rel, (∀ x ∈ l, checkS x = 0) → firstS l = 0
  | [], _ => rfl
  | x :: r, h => by rw [firstS, if_pos (h x (by simp)), firstS_zero r (fun y hy => h y (List.mem_cons_of_mem _ hy))]
end Go.Proofs.YtpnobpnknlpjnaaGreatDoor
