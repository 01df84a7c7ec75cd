import Derived.Test.YtpnobpnknlpjnaaGreatDoorSpec
import Derived.Lib.ConvBytes
set_option linter.unusedVariables false
set_option linter.unusedSimpArgs false
namespace Go.Proofs.YtpnobpnknlpjnaaGreatDoor
open Go Go.RowKit
set_option maxRecDepth 100000 in
set_option maxHeartbeats 4000000 in
theorem isName_lib (s : ByteArray) (w : World) (hs : s.size ≤ 9223372036854775807) :
    Calls Tryz.prog 17 #[.string s] w fun e w' => e = .returned (.bool (isNameS s)) ∧ Below w.heap.size w w' := by
  by_cases h0 : s.size < 1
  · have hf : isNameS s = false := by simp [isNameS]; omega
    have he : s.toList = [] := by
      rw [Lib.toList_data]; apply List.eq_nil_of_length_eq_zero; rw [← Lib.size_eq]; omega
    have he2 : (!s.toList.isEmpty) = false := by rw [he]; rfl
    have HF := Lib.hid hf
    clear hf
    go_enter Tryz.func17, Tryz.ntmps17
    go_wp2
    go_ret
    exact ⟨ret_b HF.out.symm, Below.refl _ _⟩
  have he : s.toList.isEmpty = false := by
    rw [Lib.toList_data]
    have hz := Lib.size_eq s
    cases h : s.data.toList with
    | nil => rw [h] at hz; exact absurd hz (by simp only [List.length_nil]; omega)
    | cons a l => rfl
  by_cases h1 : 32 < s.size
  · have hf : isNameS s = false := by simp [isNameS]; omega
    have HF := Lib.hid hf
    clear hf
    go_enter Tryz.func17, Tryz.ntmps17
    go_wp2
    go_ret
    exact ⟨ret_b HF.out.symm, Below.refl _ _⟩
  have hf : isNameS s = okFrom 0 s.data.toList := by simp [isNameS]; omega
  have HF := Lib.hid hf
  clear hf
  obtain ⟨cap, W1, hconv, hcells, hbel⟩ : ∃ cap W1, (convert 9 72 (.string s)).run Tryz.prog w = .ok (.slice (some ⟨w.heap.size, 0, none⟩) s.size cap) W1 ∧
      (∀ j (hj : j < s.size), W1.cell? ⟨w.heap.size, j, none⟩ = some (.int .u8 (s[j].toNat : Int))) ∧ Below w.heap.size w W1 := by
    refine ⟨_, _, Lib.run_convert_string_bytes w 9 72 5 s Tryz.underlying9 Tryz.underlying72 Tryz.underlying5, fun j hj => ?_, ⟨rfl, rfl, rfl, by rw [Lib.bytesWorld_size]; omega, fun k hk => Lib.bytesWorld_at_old w _ s k hk⟩⟩
    rw [Lib.bytesWorld_cell w _ s j hj]
    have : s.data.toList.getD j 0 = s[j] := by
      have hj' : j < s.data.size := hj
      rw [List.getD_eq_getElem?_getD, List.getElem?_eq_getElem (by simpa using hj')]; rfl
    rw [this]
  go_enter Tryz.func17, Tryz.ntmps17
  go_wp2
  clear hconv
  go_loop [17] (fun i => ∃ k : Nat, k ≤ s.size ∧ i = .int .i64 k ∧ Hid (okFrom 0 s.data.toList = okFrom k (s.data.toList.drop k))) (fun i => s.size - (intOf i).toNat)
  case atStart => exact ⟨0, Nat.zero_le _, rfl, Lib.hid rfl⟩
  case round =>
    obtain ⟨k, hk, rfl, HT⟩ := hrel
    by_cases hlt : k < s.size
    · have HS := Lib.hid (okFrom_step hlt)
      have hcell := hcells k hlt
      obtain ⟨c, hcc⟩ : ∃ c, c = s[k] := ⟨_, rfl⟩
      have hyes : okAt k c = true → okFrom 0 s.data.toList = okFrom (k + 1) (s.data.toList.drop (k + 1)) := fun h => by rw [HT.out, HS.out, ← hcc, h, Bool.true_and]
      have hno : okAt k c = false → okFrom 0 s.data.toList = false := fun h => by rw [HT.out, HS.out, ← hcc, h, Bool.false_and]
      have HY := Lib.hid hyes
      have HN := Lib.hid hno
      rw [← hcc] at hcell
      clear HS HT hyes hno hcells hcc
      rcases Nat.eq_zero_or_pos k with hz | hz
      · subst hz
        rcases range_u8 c with h | h | h | h | h | h | h | h | h
        · have h95 : ((c.toNat : Int) == 95) = false := by simp; omega
          have d122 : decide ((c.toNat : Int) ≤ 122) = true := by simp; omega
          have d90 : decide ((c.toNat : Int) ≤ 90) = true := by simp; omega
          have d57 : decide ((c.toNat : Int) ≤ 57) = true := by simp; omega
          go_wp2
          go_ret
          exact ⟨ret_b (by rw [HF.out]; exact (HN.out (okAt_first (by omega))).symm), hbel⟩
        · have h95 : ((c.toNat : Int) == 95) = false := by simp; omega
          have d122 : decide ((c.toNat : Int) ≤ 122) = true := by simp; omega
          have d90 : decide ((c.toNat : Int) ≤ 90) = true := by simp; omega
          have d57 : decide ((c.toNat : Int) ≤ 57) = true := by simp; omega
          go_wp2
          go_ret
          exact ⟨ret_b (by rw [HF.out]; exact (HN.out (okAt_first (by omega))).symm), hbel⟩
        · have h95 : ((c.toNat : Int) == 95) = false := by simp; omega
          have d122 : decide ((c.toNat : Int) ≤ 122) = true := by simp; omega
          have d90 : decide ((c.toNat : Int) ≤ 90) = true := by simp; omega
          have d57 : decide ((c.toNat : Int) ≤ 57) = false := by simp; omega
          go_wp2
          go_ret
          exact ⟨ret_b (by rw [HF.out]; exact (HN.out (okAt_first (by omega))).symm), hbel⟩
        · have h95 : ((c.toNat : Int) == 95) = false := by simp; omega
          have d122 : decide ((c.toNat : Int) ≤ 122) = true := by simp; omega
          have d90 : decide ((c.toNat : Int) ≤ 90) = true := by simp; omega
          have d57 : decide ((c.toNat : Int) ≤ 57) = false := by simp; omega
          go_wp2
          go_round
          case rel => exact ⟨0 + 1, by omega, by go_num, Lib.hid (HY.out (okAt_let (by omega)))⟩
          case measure => simp [intOf]; omega
        · have h95 : ((c.toNat : Int) == 95) = false := by simp; omega
          have d122 : decide ((c.toNat : Int) ≤ 122) = true := by simp; omega
          have d90 : decide ((c.toNat : Int) ≤ 90) = false := by simp; omega
          have d57 : decide ((c.toNat : Int) ≤ 57) = false := by simp; omega
          go_wp2
          go_ret
          exact ⟨ret_b (by rw [HF.out]; exact (HN.out (okAt_first (by omega))).symm), hbel⟩
        · have h95 : ((c.toNat : Int) == 95) = true := by simp; omega
          have H := Lib.hid h
          clear h
          have b1 : 94 < (c.toNat : Int) := by have := H.out; omega
          have b2 : (c.toNat : Int) < 96 := by have := H.out; omega
          have d122 : decide ((c.toNat : Int) ≤ 122) = true := by have := H.out; simp; omega
          have d90 : decide ((c.toNat : Int) ≤ 90) = false := by have := H.out; simp; omega
          have d57 : decide ((c.toNat : Int) ≤ 57) = false := by have := H.out; simp; omega
          go_wp2
          go_ret
          exact ⟨ret_b (by rw [HF.out]; exact (HN.out (okAt_first (by have := H.out; omega))).symm), hbel⟩
        · have h95 : ((c.toNat : Int) == 95) = false := by simp; omega
          have d122 : decide ((c.toNat : Int) ≤ 122) = true := by simp; omega
          have d90 : decide ((c.toNat : Int) ≤ 90) = false := by simp; omega
          have d57 : decide ((c.toNat : Int) ≤ 57) = false := by simp; omega
          go_wp2
          go_ret
          exact ⟨ret_b (by rw [HF.out]; exact (HN.out (okAt_first (by omega))).symm), hbel⟩
        · have h95 : ((c.toNat : Int) == 95) = false := by simp; omega
          have d122 : decide ((c.toNat : Int) ≤ 122) = true := by simp; omega
          have d90 : decide ((c.toNat : Int) ≤ 90) = false := by simp; omega
          have d57 : decide ((c.toNat : Int) ≤ 57) = false := by simp; omega
          go_wp2
          go_round
          case rel => exact ⟨0 + 1, by omega, by go_num, Lib.hid (HY.out (okAt_let (by omega)))⟩
          case measure => simp [intOf]; omega
        · have h95 : ((c.toNat : Int) == 95) = false := by simp; omega
          have d122 : decide ((c.toNat : Int) ≤ 122) = false := by simp; omega
          have d90 : decide ((c.toNat : Int) ≤ 90) = false := by simp; omega
          have d57 : decide ((c.toNat : Int) ≤ 57) = false := by simp; omega
          go_wp2
          go_ret
          exact ⟨ret_b (by rw [HF.out]; exact (HN.out (okAt_first (by omega))).symm), hbel⟩
      · have hz0 : ((k : Int) == 0) = false := by simp; omega
        rcases range_u8 c with h | h | h | h | h | h | h | h | h
        · have h95 : ((c.toNat : Int) == 95) = false := by simp; omega
          have d122 : decide ((c.toNat : Int) ≤ 122) = true := by simp; omega
          have d90 : decide ((c.toNat : Int) ≤ 90) = true := by simp; omega
          have d57 : decide ((c.toNat : Int) ≤ 57) = true := by simp; omega
          go_wp2
          go_ret
          exact ⟨ret_b (by rw [HF.out]; exact (HN.out (okAt_no (by omega))).symm), hbel⟩
        · have h95 : ((c.toNat : Int) == 95) = false := by simp; omega
          have d122 : decide ((c.toNat : Int) ≤ 122) = true := by simp; omega
          have d90 : decide ((c.toNat : Int) ≤ 90) = true := by simp; omega
          have d57 : decide ((c.toNat : Int) ≤ 57) = true := by simp; omega
          go_wp2
          go_round
          case rel => exact ⟨k + 1, by omega, by go_num, Lib.hid (HY.out (okAt_more hz (by omega)))⟩
          case measure => simp [intOf]; omega
        · have h95 : ((c.toNat : Int) == 95) = false := by simp; omega
          have d122 : decide ((c.toNat : Int) ≤ 122) = true := by simp; omega
          have d90 : decide ((c.toNat : Int) ≤ 90) = true := by simp; omega
          have d57 : decide ((c.toNat : Int) ≤ 57) = false := by simp; omega
          go_wp2
          go_ret
          exact ⟨ret_b (by rw [HF.out]; exact (HN.out (okAt_no (by omega))).symm), hbel⟩
        · have h95 : ((c.toNat : Int) == 95) = false := by simp; omega
          have d122 : decide ((c.toNat : Int) ≤ 122) = true := by simp; omega
          have d90 : decide ((c.toNat : Int) ≤ 90) = true := by simp; omega
          have d57 : decide ((c.toNat : Int) ≤ 57) = false := by simp; omega
          go_wp2
          go_round
          case rel => exact ⟨k + 1, by omega, by go_num, Lib.hid (HY.out (okAt_let (by omega)))⟩
          case measure => simp [intOf]; omega
        · have h95 : ((c.toNat : Int) == 95) = false := by simp; omega
          have d122 : decide ((c.toNat : Int) ≤ 122) = true := by simp; omega
          have d90 : decide ((c.toNat : Int) ≤ 90) = false := by simp; omega
          have d57 : decide ((c.toNat : Int) ≤ 57) = false := by simp; omega
          go_wp2
          go_ret
          exact ⟨ret_b (by rw [HF.out]; exact (HN.out (okAt_no (by omega))).symm), hbel⟩
        · have h95 : ((c.toNat : Int) == 95) = true := by simp; omega
          have H := Lib.hid h
          clear h
          have b1 : 94 < (c.toNat : Int) := by have := H.out; omega
          have b2 : (c.toNat : Int) < 96 := by have := H.out; omega
          have d122 : decide ((c.toNat : Int) ≤ 122) = true := by have := H.out; simp; omega
          have d90 : decide ((c.toNat : Int) ≤ 90) = false := by have := H.out; simp; omega
          have d57 : decide ((c.toNat : Int) ≤ 57) = false := by have := H.out; simp; omega
          go_wp2
          go_round
          case rel => exact ⟨k + 1, by omega, by go_num, Lib.hid (HY.out (okAt_more hz (.inr H.out)))⟩
          case measure => simp [intOf]; omega
        · have h95 : ((c.toNat : Int) == 95) = false := by simp; omega
          have d122 : decide ((c.toNat : Int) ≤ 122) = true := by simp; omega
          have d90 : decide ((c.toNat : Int) ≤ 90) = false := by simp; omega
          have d57 : decide ((c.toNat : Int) ≤ 57) = false := by simp; omega
          go_wp2
          go_ret
          exact ⟨ret_b (by rw [HF.out]; exact (HN.out (okAt_no (by omega))).symm), hbel⟩
        · have h95 : ((c.toNat : Int) == 95) = false := by simp; omega
          have d122 : decide ((c.toNat : Int) ≤ 122) = true := by simp; omega
          have d90 : decide ((c.toNat : Int) ≤ 90) = false := by simp; omega
          have d57 : decide ((c.toNat : Int) ≤ 57) = false := by simp; omega
          go_wp2
          go_round
          case rel => exact ⟨k + 1, by omega, by go_num, Lib.hid (HY.out (okAt_let (by omega)))⟩
          case measure => simp [intOf]; omega
        · have h95 : ((c.toNat : Int) == 95) = false := by simp; omega
          have d122 : decide ((c.toNat : Int) ≤ 122) = false := by simp; omega
          have d90 : decide ((c.toNat : Int) ≤ 90) = false := by simp; omega
          have d57 : decide ((c.toNat : Int) ≤ 57) = false := by simp; omega
          go_wp2
          go_ret
          exact ⟨ret_b (by rw [HF.out]; exact (HN.out (okAt_no (by omega))).symm), hbel⟩
    · have hend : okFrom 0 s.data.toList = true := by
        rw [HT.out, show k = s.size by omega, okFrom_end]
      have HE := Lib.hid hend
      clear HT hend hcells
      have hge : ¬ (k : Int) < (s.size : Int) := by omega
      go_wp2
      go_ret
      exact ⟨ret_b (by rw [HF.out, HE.out]), hbel⟩
end Go.Proofs.YtpnobpnknlpjnaaGreatDoor
