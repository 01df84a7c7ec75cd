import Derived.Test.YtpnobpnknlpjnaaGreatDoorOwn
import Derived.Shelf.SlSortCmp.NoneTotal
set_option linter.unusedVariables false
set_option linter.unusedSimpArgs false
namespace Go.Proofs.YtpnobpnknlpjnaaGreatDoor
open Go Go.RowKit Go.Sort
set_option maxRecDepth 10000 in
set_option maxHeartbeats 400000 in
theorem isNaN_str (x : ByteArray) (w : World) : Calls Tryz.prog 42 #[.string x] w fun e w' => e = .returned (.bool false) ∧ w = w' := by
  go_enter Tryz.func42, Tryz.ntmps42
  go_wp2
  go_ret
  exact ⟨ret_b (by simp), rfl⟩
set_option maxRecDepth 10000 in
set_option maxHeartbeats 400000 in
theorem isNaN_int (x : Int) (w : World) : Calls Tryz.prog 57 #[.int .i64 x] w fun e w' => e = .returned (.bool false) ∧ w = w' := by
  go_enter Tryz.func57, Tryz.ntmps57
  go_wp2
  go_ret
  exact ⟨ret_b (by simp), rfl⟩
set_option maxRecDepth 10000 in
set_option maxHeartbeats 400000 in
theorem cmp_str (x y : ByteArray) (w : World) : Calls Tryz.prog 28 #[.string x, .string y] w fun e w' => e = .returned (.int .i64 (cmpS x y)) ∧ w = w' := by
  cases h1 : K.slt x y with
  | true =>
    have HR := Lib.hid (show cmpS x y = -1 by simp [cmpS, h1])
    have hb : Op.bytesLess x.toList y.toList = true := h1
    clear h1
    go_enter Tryz.func28, Tryz.ntmps28
    go_wp2_with (go_at_call 42; refine (isNaN_str _ _).mono ?_; rintro e w' ⟨rfl, rfl⟩)
    go_ret
    exact ⟨ret_i HR.out.symm, rfl⟩
  | false =>
    have hb : Op.bytesLess x.toList y.toList = false := h1
    cases h2 : K.slt y x with
    | true =>
      have HR := Lib.hid (show cmpS x y = 1 by simp [cmpS, h1, h2])
      have he : (x.toList == y.toList) = false := by
        rw [K.beq_str]
        simp only [decide_eq_false_iff_not]
        rintro rfl
        rw [K.slt_irrefl] at h2; cases h2
      clear h1 h2
      go_enter Tryz.func28, Tryz.ntmps28
      go_wp2_with (go_at_call 42; refine (isNaN_str _ _).mono ?_; rintro e w' ⟨rfl, rfl⟩)
      go_ret
      exact ⟨ret_i HR.out.symm, rfl⟩
    | false =>
      have HR := Lib.hid (show cmpS x y = 0 by simp [cmpS, h1, h2])
      have he : (x.toList == y.toList) = true := by
        rw [K.beq_str, K.slt_total h1 h2]; simp
      clear h1 h2
      go_enter Tryz.func28, Tryz.ntmps28
      go_wp2_with (go_at_call 42; refine (isNaN_str _ _).mono ?_; rintro e w' ⟨rfl, rfl⟩)
      go_ret
      exact ⟨ret_i HR.out.symm, rfl⟩
set_option maxRecDepth 10000 in
set_option maxHeartbeats 400000 in
theorem cmp_int (x y : Int) (w : World) : Calls Tryz.prog 39 #[.int .i64 x, .int .i64 y] w fun e w' => e = .returned (.int .i64 (cmpI x y)) ∧ w = w' := by
  rcases (show x < y ∨ y < x ∨ x = y by omega) with h | h | h
  · have HR := Lib.hid (show cmpI x y = -1 by simp [cmpI, h])
    go_enter Tryz.func39, Tryz.ntmps39
    go_wp2_with (go_at_call 57; refine (isNaN_int _ _).mono ?_; rintro e w' ⟨rfl, rfl⟩)
    go_ret
    exact ⟨ret_i HR.out.symm, rfl⟩
  · have HR := Lib.hid (show cmpI x y = 1 by unfold cmpI; rw [if_neg (by omega), if_pos h])
    go_enter Tryz.func39, Tryz.ntmps39
    go_wp2_with (go_at_call 57; refine (isNaN_int _ _).mono ?_; rintro e w' ⟨rfl, rfl⟩)
    go_ret
    exact ⟨ret_i HR.out.symm, rfl⟩
  · subst h
    have HR := Lib.hid (show cmpI x x = 0 by simp [cmpI])
    go_enter Tryz.func39, Tryz.ntmps39
    go_wp2_with (go_at_call 57; refine (isNaN_int _ _).mono ?_; rintro e w' ⟨rfl, rfl⟩)
    go_ret
    exact ⟨ret_i HR.out.symm, rfl⟩
set_option maxRecDepth 10000 in
set_option maxHeartbeats 400000 in
theorem or_any (A : Option Addr) (c : Nat) (xs : List Int) (w : World) (hx : Rd encI w A xs) :
    Calls Tryz.prog 27 #[.slice A xs.length c] w fun e w' => e = .returned (.int .i64 (orS xs)) ∧ w = w' := by
  have hlx := hx.1
  go_enter Tryz.func27, Tryz.ntmps27
  go_wp2_with fail
  go_loop [8] (fun i => ∃ k : Nat, k ≤ xs.length ∧ i = .int .i64 k ∧ Hid (orS xs = orS (xs.drop k))) (fun i => xs.length - (intOf i).toNat)
  case atStart => exact ⟨0, Nat.zero_le _, rfl, Lib.hid rfl⟩
  case round =>
    obtain ⟨k, hk, rfl, HT⟩ := hrel
    by_cases hlt : k < xs.length
    · obtain ⟨x, ex⟩ := get_of_lt hlt
      obtain ⟨b1, o1, rfl, h0⟩ := hx.num ex
      have HS := Lib.hid (show orS xs = if x = 0 then orS (xs.drop (k + 1)) else x by
        rw [HT.out, List.drop_eq_getElem_cons hlt]
        have : xs[k] = x := by rw [List.getElem?_eq_getElem hlt] at ex; exact Option.some.inj ex
        rw [this]; rfl)
      clear hx ex HT
      by_cases hz : x = 0
      · subst hz
        go_wp2_with fail
        go_round
        case rel => exact ⟨k + 1, by omega, by go_num, Lib.hid (by rw [HS.out]; rfl)⟩
        case measure => simp [intOf]; omega
      · have hne : (x != 0) = true := by simp [hz]
        have HZ := Lib.hid hz
        clear hz
        go_wp2_with fail
        go_ret
        exact ⟨ret_i (by rw [HS.out, if_neg HZ.out]), rfl⟩
    · have HE := Lib.hid (show orS xs = 0 by rw [HT.out, show k = xs.length by omega, List.drop_length]; rfl)
      have hge : ¬ (k : Int) < (xs.length : Int) := by omega
      clear HT
      go_wp2_with fail
      go_ret
      exact ⟨ret_i HE.out.symm, rfl⟩
end Go.Proofs.YtpnobpnknlpjnaaGreatDoor
