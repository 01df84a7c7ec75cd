import Derived.Test.YtpnobpnknlpjnaaDoorEq
set_option linter.unusedVariables false
set_option linter.unusedSimpArgs false
namespace Go.Proofs.YtpnobpnknlpjnaaDoor
open Go Go.RowKit
set_option maxHeartbeats 400000 in
theorem same_any (A B : Option Addr) (c d : Nat) (xs ys : List Rel) (w : World) (hx : Rd encR w A xs) (hy : Rd encR w B ys) :
    Calls Tryd.prog 14 #[.slice A xs.length c, .slice B ys.length d] w fun e w' => e = .returned (.bool (decide (xs = ys))) ∧ ∃ n, w' = w.drewN n := by
  have hlx := hx.1
  have hly := hy.1
  by_cases hl : xs.length = ys.length
  · have hln : ((xs.length : Int) != (ys.length : Int)) = false := by simp; omega
    have HL := Lib.hid hl
    clear hl
    go_enter Tryd.func14, Tryd.ntmps14
    go_wp2
    go_loopw [5] (fun i wr => ∃ k : Nat, k ≤ xs.length ∧ i = .int .i64 k ∧ Hid (xs.take k = ys.take k) ∧ ∃ n, wr = w.drewN n) (fun i _ => xs.length - (intOf i).toNat)
    case atStart => exact ⟨0, Nat.zero_le _, rfl, Lib.hid rfl, 0, rfl⟩
    case round =>
      obtain ⟨k, hk, rfl, HT, n, rfl⟩ := hrel
      by_cases hlt : k < xs.length
      · obtain ⟨x, ex⟩ := get_of_lt hlt
        have hlt2 : k < ys.length := by have := HL.out; omega
        obtain ⟨y, ey⟩ := get_of_lt hlt2
        obtain ⟨b1, o1, rfl, h0, h1, h2⟩ := hx.rel ex
        obtain ⟨b2, o2, rfl, g0, g1, g2⟩ := hy.rel ey
        have EX := Lib.hid ex
        have EY := Lib.hid ey
        clear hx hy ex ey
        have hq : ∀ w, (binOp .neq 33 (.agg #[.int .i64 x.1, .string x.2.1, .string x.2.2]) (.agg #[.int .i64 y.1, .string y.2.1, .string y.2.2])).run Tryd.prog w = .ok (.bool (!decide (x = y))) w := neqR x y
        by_cases e : x = y
        · subst e
          clear hq
          go_wp2
          go_quiet (fail)
          go_wp2
          go_roundw
          case rel =>
            refine ⟨k + 1, by omega, by go_num, Lib.hid ?_, _, rfl⟩
            rw [List.take_add_one, List.take_add_one, HT.out, EX.out, EY.out]
          case measure => simp [intOf]; omega
        · rw [decide_eq_false e] at hq
          have hne : xs ≠ ys := fun h => e (by have h1 := EX.out; have h2 := EY.out; rw [h] at h1; rw [h1] at h2; exact Option.some.inj h2)
          go_wp2
          go_quiet (fail)
          go_wp2
          go_ret
          exact ⟨by simp [hne], _, World.drewN_drewN ..⟩
      · obtain rfl : k = xs.length := by omega
        go_wp2
        go_ret
        have : xs = ys := by have := HT.out; rw [List.take_length, HL.out, List.take_length] at this; exact this
        exact ⟨by rw [this]; simp, _, rfl⟩
  · have hln : ((xs.length : Int) != (ys.length : Int)) = true := by simp; omega
    have hne : xs ≠ ys := fun e => hl (by rw [e])
    clear hl
    go_enter Tryd.func14, Tryd.ntmps14
    go_wp2
    go_ret
    exact ⟨by simp [hne], 0, rfl⟩
end Go.Proofs.YtpnobpnknlpjnaaDoor
