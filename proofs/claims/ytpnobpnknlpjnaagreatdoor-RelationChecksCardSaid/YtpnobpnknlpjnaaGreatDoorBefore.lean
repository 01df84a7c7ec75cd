import Derived.Test.YtpnobpnknlpjnaaGreatDoorCheck
set_option linter.unusedVariables false
set_option linter.unusedSimpArgs false
namespace Go.Proofs.YtpnobpnknlpjnaaGreatDoor
open Go Go.RowKit
set_option maxRecDepth 10000 in
set_option maxHeartbeats 400000 in
theorem checkAll_any (A : Option Addr) (c : Nat) (xs : List Rel) (w : World) (hx : Rd encR w A xs) (hn : ∀ x ∈ xs, x.2.1.size ≤ 9223372036854775807 ∧ x.2.2.size ≤ 9223372036854775807) :
    Calls Tryz.prog 8 #[.slice A xs.length c] w fun e w' => e = .returned (.int .i64 (checkAllS xs)) ∧ Below w.heap.size w w' := by
  have hlx := hx.1
  by_cases hl : 200 < xs.length
  · have HR := Lib.hid (show checkAllS xs = 4 by simp [checkAllS, hl])
    go_enter Tryz.func8, Tryz.ntmps8
    go_wp2_with fail
    go_ret
    exact ⟨ret_i HR.out.symm, Below.refl _ _⟩
  · have HR := Lib.hid (show checkAllS xs = firstS xs by simp [checkAllS, hl])
    have HN := Lib.hid hn
    clear hn
    go_enter Tryz.func8, Tryz.ntmps8
    go_wp2_with fail
    go_loopw [11] (fun i wr => ∃ k : Nat, k ≤ xs.length ∧ i = .int .i64 k ∧ Hid (firstS xs = firstS (xs.drop k)) ∧ Hid (Below w.heap.size w wr)) (fun i _ => xs.length - (intOf i).toNat)
    case atStart => exact ⟨0, Nat.zero_le _, rfl, Lib.hid rfl, Lib.hid (Below.refl _ _)⟩
    case round =>
      obtain ⟨k, hk, rfl, HT, HB⟩ := hrel
      by_cases hlt : k < xs.length
      · obtain ⟨x, ex⟩ := get_of_lt hlt
        have hxr := hx.below HB.out
        obtain ⟨b1, o1, rfl, h0, h1, h2⟩ := hxr.rel ex
        have hm : x ∈ xs := List.mem_of_getElem? ex
        obtain ⟨n1, n2⟩ := HN.out x hm
        have hst : firstS xs = if checkS x = 0 then firstS (xs.drop (k + 1)) else checkS x := by
          rw [HT.out, List.drop_eq_getElem_cons hlt]
          have : xs[k] = x := by rw [List.getElem?_eq_getElem hlt] at ex; exact Option.some.inj ex
          rw [this]; rfl
        have HS := Lib.hid hst
        clear hst hm ex hx HT HN hxr
        go_wp2_with fail
        refine (check_lib x _ n1 n2).mono ?_
        rintro e w2 ⟨rfl, hb2⟩
        have HB2 := Lib.hid hb2
        clear hb2 h0 h1 h2
        by_cases h0 : checkS x = 0
        · have H0 := Lib.hid h0
          rw [h0]
          clear h0
          go_wp2_with fail
          go_roundw
          case rel =>
            exact ⟨k + 1, by omega, by go_num, Lib.hid (by rw [HS.out, if_pos H0.out]), Lib.hid (below_step (HB.out.alloc HB.out.size _) (by have := HB.out.size; simp; omega) HB2.out)⟩
          case measure => simp [intOf]; omega
        · have hne : (checkS x != 0) = true := by simp [h0]
          have HS2 := Lib.hid (show firstS xs = checkS x by rw [HS.out, if_neg h0])
          clear h0
          go_wp2_with fail
          go_ret
          exact ⟨ret_i (by rw [HR.out, HS2.out]), below_step (HB.out.alloc HB.out.size _) (by have := HB.out.size; simp; omega) HB2.out⟩
      · have HE := Lib.hid (show firstS xs = 0 by rw [HT.out, show k = xs.length by omega, List.drop_length]; rfl)
        have hge : ¬ (k : Int) < (xs.length : Int) := by omega
        clear HT
        go_wp2_with fail
        go_ret
        exact ⟨ret_i (by rw [HR.out, HE.out]), HB.out⟩
set_option maxRecDepth 10000 in
set_option maxHeartbeats 400000 in
theorem checkAll_law (A : Option Addr) (c : Nat) (xs : List Rel) (w : World) (hx : Rd encR w A xs) (hn : ∀ x ∈ xs, x.2.1.size ≤ 9223372036854775807 ∧ x.2.2.size ≤ 9223372036854775807) :
    Calls Tryz.prog 7 #[.slice A xs.length c] w fun e w' => e = .returned (.int .i64 (checkAllS xs)) ∧ Below w.heap.size w w' := by
  have hlx := hx.1
  by_cases hl : 200 < xs.length
  · have HR := Lib.hid (show checkAllS xs = 4 by simp [checkAllS, hl])
    go_enter Tryz.func7, Tryz.ntmps7
    go_wp2_with fail
    go_ret
    exact ⟨ret_i HR.out.symm, Below.refl _ _⟩
  · have HR := Lib.hid (show checkAllS xs = firstS xs by simp [checkAllS, hl])
    have HN := Lib.hid hn
    clear hn
    go_enter Tryz.func7, Tryz.ntmps7
    go_wp2_with fail
    go_loopw [3] (fun i wr => ∃ k : Nat, k ≤ xs.length ∧ i = .int .i64 k ∧ Hid (firstS xs = firstS (xs.drop k)) ∧ Hid (Below w.heap.size w wr)) (fun i _ => xs.length - (intOf i).toNat)
    case atStart => exact ⟨0, Nat.zero_le _, rfl, Lib.hid rfl, Lib.hid (Below.refl _ _)⟩
    case round =>
      obtain ⟨k, hk, rfl, HT, HB⟩ := hrel
      by_cases hlt : k < xs.length
      · obtain ⟨x, ex⟩ := get_of_lt hlt
        have hxr := hx.below HB.out
        obtain ⟨b1, o1, rfl, h0, h1, h2⟩ := hxr.rel ex
        have hm : x ∈ xs := List.mem_of_getElem? ex
        obtain ⟨n1, n2⟩ := HN.out x hm
        have hst : firstS xs = if checkS x = 0 then firstS (xs.drop (k + 1)) else checkS x := by
          rw [HT.out, List.drop_eq_getElem_cons hlt]
          have : xs[k] = x := by rw [List.getElem?_eq_getElem hlt] at ex; exact Option.some.inj ex
          rw [this]; rfl
        have HS := Lib.hid hst
        clear hst hm ex hx HT HN hxr
        go_wp2_with fail
        refine (check_law x _ n1 n2).mono ?_
        rintro e w2 ⟨rfl, hb2⟩
        have HB2 := Lib.hid hb2
        clear hb2 h0 h1 h2
        by_cases h0 : checkS x = 0
        · have H0 := Lib.hid h0
          rw [h0]
          clear h0
          go_wp2_with fail
          go_roundw
          case rel =>
            exact ⟨k + 1, by omega, by go_num, Lib.hid (by rw [HS.out, if_pos H0.out]), Lib.hid (below_step HB.out HB.out.size HB2.out)⟩
          case measure => simp [intOf]; omega
        · have hne : (checkS x != 0) = true := by simp [h0]
          have HS2 := Lib.hid (show firstS xs = checkS x by rw [HS.out, if_neg h0])
          clear h0
          go_wp2_with fail
          go_ret
          exact ⟨ret_i (by rw [HR.out, HS2.out]), below_step HB.out HB.out.size HB2.out⟩
      · have HE := Lib.hid (show firstS xs = 0 by rw [HT.out, show k = xs.length by omega, List.drop_length]; rfl)
        have hge : ¬ (k : Int) < (xs.length : Int) := by omega
        clear HT
        go_wp2_with fail
        go_ret
        exact ⟨ret_i (by rw [HR.out, HE.out]), HB.out⟩
end Go.Proofs.YtpnobpnknlpjnaaGreatDoor
