import Derived.Test.YtpnobpnknlpjnaaGreatDoorSpec
set_option linter.unusedVariables false
set_option linter.unusedSimpArgs false
namespace Go.Proofs.YtpnobpnknlpjnaaGreatDoor
open Go Go.RowKit
set_option maxHeartbeats 1000000 in
theorem isName_law (s : ByteArray) (w : World) (hs : s.size ≤ 9223372036854775807) :
    Calls Tryz.prog 18 #[.string s] w fun e w' => e = .returned (.bool (isNameS s)) ∧ w = w' := by
  by_cases h0 : s.size < 1
  · have hf : isNameS s = false := by simp [isNameS]; omega
    rw [hf]; clear hf
    go_enter Tryz.func18, Tryz.ntmps18
    go_wp2
    go_ret
    exact ⟨rfl, rfl⟩
  by_cases h1 : 32 < s.size
  · have hf : isNameS s = false := by simp [isNameS]; omega
    rw [hf]; clear hf
    go_enter Tryz.func18, Tryz.ntmps18
    go_wp2
    go_ret
    exact ⟨rfl, rfl⟩
  have hf : isNameS s = okFrom 0 s.data.toList := by simp [isNameS]; omega
  rw [hf]; clear hf
  go_enter Tryz.func18, Tryz.ntmps18
  go_wp2
  go_loop [3] (fun i => ∃ k : Nat, k ≤ s.size ∧ i = .int .i64 k ∧ Hid (okFrom 0 s.data.toList = okFrom k (s.data.toList.drop k))) (fun i => s.size - (intOf i).toNat)
  case atStart => exact ⟨0, Nat.zero_le _, rfl, Lib.hid rfl⟩
  case round =>
    obtain ⟨k, hk, rfl, HT⟩ := hrel
    by_cases hlt : k < s.size
    · have HS := Lib.hid (okFrom_step hlt)
      have hyes : okAt k s[k] = true → okFrom 0 s.data.toList = okFrom (k + 1) (s.data.toList.drop (k + 1)) := fun h => by rw [HT.out, HS.out, h, Bool.true_and]
      have hno : okAt k s[k] = false → okFrom 0 s.data.toList = false := fun h => by rw [HT.out, HS.out, h, Bool.false_and]
      have HY := Lib.hid hyes
      have HN := Lib.hid hno
      clear HS HT hyes hno
      rcases Nat.eq_zero_or_pos k with hz | hz
      · subst hz
        rcases range_u8 s[0] with h | h | h | h | h | h | h | h | h
        · have h95 : ((s[0].toNat : Int) == 95) = false := by simp; omega
          have d122 : decide ((s[0].toNat : Int) ≤ 122) = true := by simp; omega
          have d90 : decide ((s[0].toNat : Int) ≤ 90) = true := by simp; omega
          have d57 : decide ((s[0].toNat : Int) ≤ 57) = true := by simp; omega
          go_wp2
          go_ret
          exact ⟨ret_b (HN.out (okAt_first (by omega))).symm, rfl⟩
        · have h95 : ((s[0].toNat : Int) == 95) = false := by simp; omega
          have d122 : decide ((s[0].toNat : Int) ≤ 122) = true := by simp; omega
          have d90 : decide ((s[0].toNat : Int) ≤ 90) = true := by simp; omega
          have d57 : decide ((s[0].toNat : Int) ≤ 57) = true := by simp; omega
          go_wp2
          go_ret
          exact ⟨ret_b (HN.out (okAt_first (by omega))).symm, rfl⟩
        · have h95 : ((s[0].toNat : Int) == 95) = false := by simp; omega
          have d122 : decide ((s[0].toNat : Int) ≤ 122) = true := by simp; omega
          have d90 : decide ((s[0].toNat : Int) ≤ 90) = true := by simp; omega
          have d57 : decide ((s[0].toNat : Int) ≤ 57) = false := by simp; omega
          go_wp2
          go_ret
          exact ⟨ret_b (HN.out (okAt_first (by omega))).symm, rfl⟩
        · have h95 : ((s[0].toNat : Int) == 95) = false := by simp; omega
          have d122 : decide ((s[0].toNat : Int) ≤ 122) = true := by simp; omega
          have d90 : decide ((s[0].toNat : Int) ≤ 90) = true := by simp; omega
          have d57 : decide ((s[0].toNat : Int) ≤ 57) = false := by simp; omega
          go_wp2
          go_round
          case rel => exact ⟨0 + 1, by omega, by go_num, Lib.hid (HY.out (okAt_let (by omega)))⟩
          case measure => simp [intOf]; omega
        · have h95 : ((s[0].toNat : Int) == 95) = false := by simp; omega
          have d122 : decide ((s[0].toNat : Int) ≤ 122) = true := by simp; omega
          have d90 : decide ((s[0].toNat : Int) ≤ 90) = false := by simp; omega
          have d57 : decide ((s[0].toNat : Int) ≤ 57) = false := by simp; omega
          go_wp2
          go_ret
          exact ⟨ret_b (HN.out (okAt_first (by omega))).symm, rfl⟩
        · have h95 : ((s[0].toNat : Int) == 95) = true := by simp; omega
          have H := Lib.hid h
          clear h
          have b1 : 94 < (s[0].toNat : Int) := by have := H.out; omega
          have b2 : (s[0].toNat : Int) < 96 := by have := H.out; omega
          have d122 : decide ((s[0].toNat : Int) ≤ 122) = true := by have := H.out; simp; omega
          have d90 : decide ((s[0].toNat : Int) ≤ 90) = false := by have := H.out; simp; omega
          have d57 : decide ((s[0].toNat : Int) ≤ 57) = false := by have := H.out; simp; omega
          go_wp2
          go_ret
          exact ⟨ret_b (HN.out (okAt_first (by have := H.out; omega))).symm, rfl⟩
        · have h95 : ((s[0].toNat : Int) == 95) = false := by simp; omega
          have d122 : decide ((s[0].toNat : Int) ≤ 122) = true := by simp; omega
          have d90 : decide ((s[0].toNat : Int) ≤ 90) = false := by simp; omega
          have d57 : decide ((s[0].toNat : Int) ≤ 57) = false := by simp; omega
          go_wp2
          go_ret
          exact ⟨ret_b (HN.out (okAt_first (by omega))).symm, rfl⟩
        · have h95 : ((s[0].toNat : Int) == 95) = false := by simp; omega
          have d122 : decide ((s[0].toNat : Int) ≤ 122) = true := by simp; omega
          have d90 : decide ((s[0].toNat : Int) ≤ 90) = false := by simp; omega
          have d57 : decide ((s[0].toNat : Int) ≤ 57) = false := by simp; omega
          go_wp2
          go_round
          case rel => exact ⟨0 + 1, by omega, by go_num, Lib.hid (HY.out (okAt_let (by omega)))⟩
          case measure => simp [intOf]; omega
        · have h95 : ((s[0].toNat : Int) == 95) = false := by simp; omega
          have d122 : decide ((s[0].toNat : Int) ≤ 122) = false := by simp; omega
          have d90 : decide ((s[0].toNat : Int) ≤ 90) = false := by simp; omega
          have d57 : decide ((s[0].toNat : Int) ≤ 57) = false := by simp; omega
          go_wp2
          go_ret
          exact ⟨ret_b (HN.out (okAt_first (by omega))).symm, rfl⟩
      · have hz0 : ((k : Int) == 0) = false := by simp; omega
        rcases range_u8 s[k] with h | h | h | h | h | h | h | h | h
        · have h95 : ((s[k].toNat : Int) == 95) = false := by simp; omega
          have d122 : decide ((s[k].toNat : Int) ≤ 122) = true := by simp; omega
          have d90 : decide ((s[k].toNat : Int) ≤ 90) = true := by simp; omega
          have d57 : decide ((s[k].toNat : Int) ≤ 57) = true := by simp; omega
          go_wp2
          go_ret
          exact ⟨ret_b (HN.out (okAt_no (by omega))).symm, rfl⟩
        · have h95 : ((s[k].toNat : Int) == 95) = false := by simp; omega
          have d122 : decide ((s[k].toNat : Int) ≤ 122) = true := by simp; omega
          have d90 : decide ((s[k].toNat : Int) ≤ 90) = true := by simp; omega
          have d57 : decide ((s[k].toNat : Int) ≤ 57) = true := by simp; omega
          go_wp2
          go_round
          case rel => exact ⟨k + 1, by omega, by go_num, Lib.hid (HY.out (okAt_more hz (by omega)))⟩
          case measure => simp [intOf]; omega
        · have h95 : ((s[k].toNat : Int) == 95) = false := by simp; omega
          have d122 : decide ((s[k].toNat : Int) ≤ 122) = true := by simp; omega
          have d90 : decide ((s[k].toNat : Int) ≤ 90) = true := by simp; omega
          have d57 : decide ((s[k].toNat : Int) ≤ 57) = false := by simp; omega
          go_wp2
          go_ret
          exact ⟨ret_b (HN.out (okAt_no (by omega))).symm, rfl⟩
        · have h95 : ((s[k].toNat : Int) == 95) = false := by simp; omega
          have d122 : decide ((s[k].toNat : Int) ≤ 122) = true := by simp; omega
          have d90 : decide ((s[k].toNat : Int) ≤ 90) = true := by simp; omega
          have d57 : decide ((s[k].toNat : Int) ≤ 57) = false := by simp; omega
          go_wp2
          go_round
          case rel => exact ⟨k + 1, by omega, by go_num, Lib.hid (HY.out (okAt_let (by omega)))⟩
          case measure => simp [intOf]; omega
        · have h95 : ((s[k].toNat : Int) == 95) = false := by simp; omega
          have d122 : decide ((s[k].toNat : Int) ≤ 122) = true := by simp; omega
          have d90 : decide ((s[k].toNat : Int) ≤ 90) = false := by simp; omega
          have d57 : decide ((s[k].toNat : Int) ≤ 57) = false := by simp; omega
          go_wp2
          go_ret
          exact ⟨ret_b (HN.out (okAt_no (by omega))).symm, rfl⟩
        · have h95 : ((s[k].toNat : Int) == 95) = true := by simp; omega
          have H := Lib.hid h
          clear h
          have b1 : 94 < (s[k].toNat : Int) := by have := H.out; omega
          have b2 : (s[k].toNat : Int) < 96 := by have := H.out; omega
          have d122 : decide ((s[k].toNat : Int) ≤ 122) = true := by have := H.out; simp; omega
          have d90 : decide ((s[k].toNat : Int) ≤ 90) = false := by have := H.out; simp; omega
          have d57 : decide ((s[k].toNat : Int) ≤ 57) = false := by have := H.out; simp; omega
          go_wp2
          go_round
          case rel => exact ⟨k + 1, by omega, by go_num, Lib.hid (HY.out (okAt_more hz (.inr H.out)))⟩
          case measure => simp [intOf]; omega
        · have h95 : ((s[k].toNat : Int) == 95) = false := by simp; omega
          have d122 : decide ((s[k].toNat : Int) ≤ 122) = true := by simp; omega
          have d90 : decide ((s[k].toNat : Int) ≤ 90) = false := by simp; omega
          have d57 : decide ((s[k].toNat : Int) ≤ 57) = false := by simp; omega
          go_wp2
          go_ret
          exact ⟨ret_b (HN.out (okAt_no (by omega))).symm, rfl⟩
        · have h95 : ((s[k].toNat : Int) == 95) = false := by simp; omega
          have d122 : decide ((s[k].toNat : Int) ≤ 122) = true := by simp; omega
          have d90 : decide ((s[k].toNat : Int) ≤ 90) = false := by simp; omega
          have d57 : decide ((s[k].toNat : Int) ≤ 57) = false := by simp; omega
          go_wp2
          go_round
          case rel => exact ⟨k + 1, by omega, by go_num, Lib.hid (HY.out (okAt_let (by omega)))⟩
          case measure => simp [intOf]; omega
        · have h95 : ((s[k].toNat : Int) == 95) = false := by simp; omega
          have d122 : decide ((s[k].toNat : Int) ≤ 122) = false := by simp; omega
          have d90 : decide ((s[k].toNat : Int) ≤ 90) = false := by simp; omega
          have d57 : decide ((s[k].toNat : Int) ≤ 57) = false := by simp; omega
          go_wp2
          go_ret
          exact ⟨ret_b (HN.out (okAt_no (by omega))).symm, rfl⟩
    · have hend : okFrom 0 s.data.toList = true := by
        rw [HT.out, show k = s.size by omega, okFrom_end]
      have HE := Lib.hid hend
      clear HT hend
      have hge : ¬ (k : Int) < (s.size : Int) := by omega
      go_wp2
      go_ret
      exact ⟨ret_b HE.out.symm, rfl⟩
end Go.Proofs.YtpnobpnknlpjnaaGreatDoor
