/- The statement about lists that are not right, walked. -/
import Derived.Test.YtpnobpnknlpjnaaGreatDoorRename
import Derived.Test.YtpnobpnknlpjnaaGreatDoorDelete
import Derived.Test.YtpnobpnknlpjnaaGreatDoorOpposed
import Derived.Test.YtpnobpnknlpjnaaGreatDoorKnown
import Derived.Test.YtpnobpnknlpjnaaGreatDoorOpen
import Derived.Test.YtpnobpnknlpjnaaGreatDoorQTail
import Derived.Deep.LoopGhost
import Derived.Deep.DeepCutAuto
set_option linter.unusedVariables false
set_option linter.unusedSimpArgs false
namespace Go.Proofs.YtpnobpnknlpjnaaGreatDoor
open Go Go.RowKit

set_option maxRecDepth 10000 in
set_option maxHeartbeats 8000000 in
theorem law_checks (A : Option Addr) (len cap : Nat) (w : World) (hm : Mx w) (hl : len ≤ 9223372036854775807) (h : len ≤ 202 → ∃ xs : List Rel, xs.length = len ∧ Rd encR w A xs ∧ ∀ x ∈ xs, x.2.1.size ≤ 9223372036854775807 ∧ x.2.2.size ≤ 9223372036854775807) :
    Calls Tryz.prog 3 #[.slice A len cap] w fun e w' => e = .returned (.bool true) ∧ Below w.heap.size w w' := by
  have HM := Lib.hid hm
  clear hm
  rcases Nat.lt_or_ge 202 len with hlen | hlen
  · clear h
    have h12 : (12 : Int) < (len : Int) := by omega
    have h199 : ¬ (len : Int) < 199 := by omega
    have h202 : (202 : Int) < (len : Int) := by omega
    go_enter Tryz.func3, Tryz.ntmps3
    go_wp2_with fail
    refine (known_any _ HM.out).mono ?_
    rintro e w1 ⟨rfl, hb1⟩
    have HB := Lib.hid hb1
    clear hb1
    go_wp2_with fail
    refine (known_any _ (HM.out.below HB.out HM.out.pos)).mono ?_
    rintro e w2 ⟨rfl, hb1⟩
    have HB2 := Lib.hid (below_step HB.out HB.out.size hb1)
    clear hb1
    go_wp2_with fail
    go_ret
    exact ⟨rfl, HB2.out⟩
  obtain ⟨xs, rfl, hx, hr⟩ := h hlen
  have HX := Lib.hid hx
  have HN := Lib.hid hr
  clear hx hr h
  have h202 : ¬ (202 : Int) < (xs.length : Int) := by omega
  rcases Nat.lt_or_ge 12 xs.length with h12' | h12'
  · have h12 : (12 : Int) < (xs.length : Int) := by omega
    rcases Nat.lt_or_ge xs.length 199 with h199' | h199'
    · have h199 : (xs.length : Int) < 199 := by omega
      go_enter Tryz.func3, Tryz.ntmps3
      go_wp2_with fail
      refine (known_any _ HM.out).mono ?_
      rintro e w1 ⟨rfl, hb1⟩
      have HB := Lib.hid hb1
      clear hb1
      go_wp2_with fail
      refine (known_any _ (HM.out.below HB.out HM.out.pos)).mono ?_
      rintro e w2 ⟨rfl, hb1⟩
      have HB2 := Lib.hid (below_step HB.out HB.out.size hb1)
      clear hb1
      go_wp2_with fail
      go_ret
      exact ⟨rfl, HB2.out⟩
    have h199 : ¬ (xs.length : Int) < 199 := by omega
    go_enter Tryz.func3, Tryz.ntmps3
    go_wp2_with fail
    refine (known_any _ HM.out).mono ?_
    rintro e w1 ⟨rfl, hb1⟩
    have HB := Lib.hid hb1
    clear hb1
    go_wp2_with fail
    go_loopg [3] xs.length (fun gg s3 wr => ∃ k : Nat, k ≤ xs.length ∧ xs.length - k ≤ gg ∧ s3 = .int .i64 k ∧ Hid (Below w.heap.size w wr))
    case atStart => exact ⟨0, Nat.zero_le _, by omega, rfl, HB⟩
    case round =>
      obtain ⟨k, hk, hg, rfl, HBR⟩ := hrel
      by_cases hlt : k < xs.length
      · have hltz : (k : Int) < (xs.length : Int) := by omega
        obtain ⟨x, ex⟩ := get_of_lt hlt
        obtain ⟨b0, o0, rfl, x0, x1, x2⟩ := (HX.out.below HBR.out).rel ex
        obtain ⟨n1, n2⟩ := HN.out x (List.mem_of_getElem? ex)
        clear ex
        rcases Nat.lt_or_ge 40 x.2.1.size with hu | hu
        · have hu1 : (40 : Int) < (x.2.1.size : Int) := by omega
          go_wp2_with fail
          go_ret
          exact ⟨rfl, HBR.out⟩
        have hu1 : ¬ (40 : Int) < (x.2.1.size : Int) := by omega
        rcases Nat.lt_or_ge 40 x.2.2.size with hl2 | hl2
        · have hl1 : (40 : Int) < (x.2.2.size : Int) := by omega
          go_wp2_with fail
          go_ret
          exact ⟨rfl, HBR.out⟩
        have hl1 : ¬ (40 : Int) < (x.2.2.size : Int) := by omega
        go_upto_region 8 with fail
        have k0 := cell_regrown x0
        have k1 := cell_regrown x1
        have k2 := cell_regrown x2
        have cA := low_call (w := wr) (fun W _ => check_lib x W n1 n2)
        have cB := low_call (w := wr) (fun W _ => check_law x W n1 n2)
        clear x0 x1 x2
        generalize checkS x = ce at cA cB
        refine wp_region_low_tail 10 (by kernel_rfl) (by kernel_rfl) ?_
        simp only [List.take_succ_cons, List.take_zero, List.drop_succ_cons, List.drop_zero]
        repeat (go_big_quiet_step (first | exact cA _ _ | exact cB _ _))
        refine wpQuiet_nil ?_
        intro z hz
        have HBZ := Lib.hid (below_step HBR.out HBR.out.size (low_of hz))
        clear hz cA cB k0 k1 k2 HBR
        go_wp2_with fail
        go_roundg (xs.length - (k + 1))
        case measure => omega
        case rel => exact ⟨k + 1, by omega, Nat.le_refl _, by go_num, HBZ⟩
      · have hge : ¬ (k : Int) < (xs.length : Int) := by omega
        have HX := Lib.hid (HX.out.below HBR.out)
        by_cases hc : checkAllS xs = 0
        · have HC := Lib.hid hc
          clear hc
          go_wp2_with fail
          refine (checkAll_law A cap xs _ HX.out HN.out).mono ?_
          rintro e z1 ⟨rfl, hb1⟩
          rw [HC.out]
          have HX := Lib.hid (HX.out.below hb1)
          have HBX := Lib.hid (below_step HBR.out HBR.out.size hb1)
          clear hb1
          go_wp2_with fail
          refine (checkAll_any A cap xs _ HX.out HN.out).mono ?_
          rintro e z2 ⟨rfl, hb1⟩
          rw [HC.out]
          have HBX := Lib.hid (below_step HBX.out HBX.out.size hb1)
          clear hb1
          go_wp2_with fail
          go_ret
          exact ⟨rfl, HBX.out⟩
        have hpos : 0 < xs.length := by
          rcases Nat.eq_zero_or_pos xs.length with h0 | h0
          · rw [List.eq_nil_of_length_eq_zero h0] at hc
            exact absurd (by decide +kernel) hc
          · exact h0
        obtain ⟨b0, o0, rfl, _⟩ := HX.out.2 hpos
        have hne : (checkAllS xs == 0) = false := by simp [hc]
        have he1 : checkNamesS xs [⟨#[]⟩] = checkAllS xs := if_neg hc
        have he2 : checkNamesS xs [⟨#[]⟩, ⟨#[]⟩] = checkAllS xs := if_neg hc
        have he3 : renameE xs ⟨#[]⟩ ⟨#[]⟩ = checkAllS xs := by unfold renameE; rw [he2, if_neg hc]
        have HC := Lib.hid hc
        have HC1 := Lib.hid (show ¬ checkNamesS xs [⟨#[]⟩] = 0 by rw [he1]; exact hc)
        have HC2 := Lib.hid (show ¬ checkNamesS xs [⟨#[]⟩, ⟨#[]⟩] = 0 by rw [he2]; exact hc)
        have HC3 := Lib.hid (show ¬ renameE xs ⟨#[]⟩ ⟨#[]⟩ = 0 by rw [he3]; exact hc)
        have HE1 := Lib.hid he1
        have HE2 := Lib.hid he2
        have HE3 := Lib.hid he3
        clear hc hpos he1 he2 he3
        go_wp2_with fail
        refine (checkAll_law _ cap xs _ HX.out HN.out).mono ?_
        rintro e z1 ⟨rfl, hb1⟩
        have HX := Lib.hid (HX.out.below hb1)
        have HBX := Lib.hid (below_step HBR.out HBR.out.size hb1)
        clear hb1
        go_wp2_with fail
        refine (checkAll_any _ cap xs _ HX.out HN.out).mono ?_
        rintro e z2 ⟨rfl, hb1⟩
        have HX := Lib.hid (HX.out.below hb1)
        have HBX := Lib.hid (below_step HBX.out HBX.out.size hb1)
        clear hb1
        go_wp2_with fail
        refine (normal_lib _ cap xs _ HX.out (.inr ⟨_, _, rfl⟩) HN.out).mono ?_
        rintro e z1 ⟨v, rfl, ho, hb1⟩
        rw [if_neg HC.out] at ho
        obtain ⟨C1, d1, rfl, _, _⟩ := ho.view (by decide)
        have HX := Lib.hid (HX.out.below hb1)
        have HBX := Lib.hid (below_step HBX.out HBX.out.size hb1)
        clear ho hb1
        simp only [List.length_nil]
        go_wp2_with fail
        refine (units_lib _ cap xs _ HX.out HN.out).mono ?_
        rintro e z2 ⟨v, rfl, ho, hb1⟩
        rw [if_neg HC.out] at ho
        obtain ⟨C2, d2, rfl, _, _⟩ := ho.view (by decide)
        have HX := Lib.hid (HX.out.below hb1)
        have HBX := Lib.hid (below_step HBX.out HBX.out.size hb1)
        clear ho hb1
        simp only [List.length_nil]
        go_wp2_with fail
        refine (arcs_lib _ cap xs _ HX.out HN.out).mono ?_
        rintro e z3 ⟨v, rfl, ho, hb1⟩
        rw [if_neg HC.out] at ho
        obtain ⟨C3, d3, rfl, _, _⟩ := ho.view (by decide)
        have HX := Lib.hid (HX.out.below hb1)
        have HBX := Lib.hid (below_step HBX.out HBX.out.size hb1)
        clear ho hb1
        simp only [List.length_nil]
        go_wp2_with fail
        refine (between_lib _ cap xs ⟨#[]⟩ ⟨#[]⟩ _ HX.out HN.out (by decide) (by decide)).mono ?_
        rintro e z4 ⟨v, rfl, ho, hb1⟩
        rw [if_neg HC2.out] at ho
        rw [HE2.out]
        skip
        obtain ⟨C4, d4, rfl, _, _⟩ := ho.view (by decide)
        have HX := Lib.hid (HX.out.below hb1)
        have HBX := Lib.hid (below_step HBX.out HBX.out.size hb1)
        clear ho hb1
        simp only [List.length_nil]
        go_wp2_with fail
        refine (opposed_lib _ cap xs _ HX.out HN.out).mono ?_
        rintro e z5 ⟨v, rfl, ho, hb1⟩
        rw [if_neg HC.out] at ho
        obtain ⟨C5, d5, rfl, _, _⟩ := ho.view (by decide)
        have HX := Lib.hid (HX.out.below hb1)
        have HBX := Lib.hid (below_step HBX.out HBX.out.size hb1)
        clear ho hb1
        simp only [List.length_nil]
        go_wp2_with fail
        refine (rename_lib _ cap xs ⟨#[]⟩ ⟨#[]⟩ _ HX.out (.inr ⟨_, _, rfl⟩) HN.out (by decide) (by decide)).mono ?_
        rintro e z6 ⟨v, rfl, ho, hb1⟩
        rw [if_neg HC3.out] at ho
        rw [HE3.out]
        skip
        obtain ⟨C6, d6, rfl, _, _⟩ := ho.view (by decide)
        have HX := Lib.hid (HX.out.below hb1)
        have HBX := Lib.hid (below_step HBX.out HBX.out.size hb1)
        clear ho hb1
        simp only [List.length_nil]
        go_wp2_with fail
        refine (without_lib _ cap xs ⟨#[]⟩ _ HX.out (.inr ⟨_, _, rfl⟩) HN.out (by decide)).mono ?_
        rintro e z7 ⟨v, rfl, ho, hb1⟩
        rw [if_neg HC1.out] at ho
        rw [HE1.out]
        skip
        obtain ⟨C7, d7, rfl, _, _⟩ := ho.view (by decide)
        have HX := Lib.hid (HX.out.below hb1)
        have HBX := Lib.hid (below_step HBX.out HBX.out.size hb1)
        clear ho hb1
        simp only [List.length_nil]
        generalize checkAllS xs = ce at *
        go_wp2_with fail
        go_ret
        exact ⟨rfl, HBX.out⟩
  · have h12 : ¬ (12 : Int) < (xs.length : Int) := by omega
    go_enter Tryz.func3, Tryz.ntmps3
    go_wp2_with fail
    refine (known_any _ HM.out).mono ?_
    rintro e w1 ⟨rfl, hb1⟩
    have HB := Lib.hid hb1
    clear hb1
    go_wp2_with fail
    go_loopg [3] xs.length (fun gg s3 wr => ∃ k : Nat, k ≤ xs.length ∧ xs.length - k ≤ gg ∧ s3 = .int .i64 k ∧ Hid (Below w.heap.size w wr))
    case atStart => exact ⟨0, Nat.zero_le _, by omega, rfl, HB⟩
    case round =>
      obtain ⟨k, hk, hg, rfl, HBR⟩ := hrel
      by_cases hlt : k < xs.length
      · have hltz : (k : Int) < (xs.length : Int) := by omega
        obtain ⟨x, ex⟩ := get_of_lt hlt
        obtain ⟨b0, o0, rfl, x0, x1, x2⟩ := (HX.out.below HBR.out).rel ex
        obtain ⟨n1, n2⟩ := HN.out x (List.mem_of_getElem? ex)
        clear ex
        rcases Nat.lt_or_ge 40 x.2.1.size with hu | hu
        · have hu1 : (40 : Int) < (x.2.1.size : Int) := by omega
          go_wp2_with fail
          go_ret
          exact ⟨rfl, HBR.out⟩
        have hu1 : ¬ (40 : Int) < (x.2.1.size : Int) := by omega
        rcases Nat.lt_or_ge 40 x.2.2.size with hl2 | hl2
        · have hl1 : (40 : Int) < (x.2.2.size : Int) := by omega
          go_wp2_with fail
          go_ret
          exact ⟨rfl, HBR.out⟩
        have hl1 : ¬ (40 : Int) < (x.2.2.size : Int) := by omega
        go_upto_region 8 with fail
        have k0 := cell_regrown x0
        have k1 := cell_regrown x1
        have k2 := cell_regrown x2
        have cA := low_call (w := wr) (fun W _ => check_lib x W n1 n2)
        have cB := low_call (w := wr) (fun W _ => check_law x W n1 n2)
        clear x0 x1 x2
        generalize checkS x = ce at cA cB
        refine wp_region_low_tail 10 (by kernel_rfl) (by kernel_rfl) ?_
        simp only [List.take_succ_cons, List.take_zero, List.drop_succ_cons, List.drop_zero]
        repeat (go_big_quiet_step (first | exact cA _ _ | exact cB _ _))
        refine wpQuiet_nil ?_
        intro z hz
        have HBZ := Lib.hid (below_step HBR.out HBR.out.size (low_of hz))
        clear hz cA cB k0 k1 k2 HBR
        go_wp2_with fail
        go_roundg (xs.length - (k + 1))
        case measure => omega
        case rel => exact ⟨k + 1, by omega, Nat.le_refl _, by go_num, HBZ⟩
      · have hge : ¬ (k : Int) < (xs.length : Int) := by omega
        have HX := Lib.hid (HX.out.below HBR.out)
        by_cases hc : checkAllS xs = 0
        · have HC := Lib.hid hc
          clear hc
          go_wp2_with fail
          refine (checkAll_law A cap xs _ HX.out HN.out).mono ?_
          rintro e z1 ⟨rfl, hb1⟩
          rw [HC.out]
          have HX := Lib.hid (HX.out.below hb1)
          have HBX := Lib.hid (below_step HBR.out HBR.out.size hb1)
          clear hb1
          go_wp2_with fail
          refine (checkAll_any A cap xs _ HX.out HN.out).mono ?_
          rintro e z2 ⟨rfl, hb1⟩
          rw [HC.out]
          have HBX := Lib.hid (below_step HBX.out HBX.out.size hb1)
          clear hb1
          go_wp2_with fail
          go_ret
          exact ⟨rfl, HBX.out⟩
        have hpos : 0 < xs.length := by
          rcases Nat.eq_zero_or_pos xs.length with h0 | h0
          · rw [List.eq_nil_of_length_eq_zero h0] at hc
            exact absurd (by decide +kernel) hc
          · exact h0
        obtain ⟨b0, o0, rfl, _⟩ := HX.out.2 hpos
        have hne : (checkAllS xs == 0) = false := by simp [hc]
        have he1 : checkNamesS xs [⟨#[]⟩] = checkAllS xs := if_neg hc
        have he2 : checkNamesS xs [⟨#[]⟩, ⟨#[]⟩] = checkAllS xs := if_neg hc
        have he3 : renameE xs ⟨#[]⟩ ⟨#[]⟩ = checkAllS xs := by unfold renameE; rw [he2, if_neg hc]
        have HC := Lib.hid hc
        have HC1 := Lib.hid (show ¬ checkNamesS xs [⟨#[]⟩] = 0 by rw [he1]; exact hc)
        have HC2 := Lib.hid (show ¬ checkNamesS xs [⟨#[]⟩, ⟨#[]⟩] = 0 by rw [he2]; exact hc)
        have HC3 := Lib.hid (show ¬ renameE xs ⟨#[]⟩ ⟨#[]⟩ = 0 by rw [he3]; exact hc)
        have HE1 := Lib.hid he1
        have HE2 := Lib.hid he2
        have HE3 := Lib.hid he3
        clear hc hpos he1 he2 he3
        go_wp2_with fail
        refine (checkAll_law _ cap xs _ HX.out HN.out).mono ?_
        rintro e z1 ⟨rfl, hb1⟩
        have HX := Lib.hid (HX.out.below hb1)
        have HBX := Lib.hid (below_step HBR.out HBR.out.size hb1)
        clear hb1
        go_wp2_with fail
        refine (checkAll_any _ cap xs _ HX.out HN.out).mono ?_
        rintro e z2 ⟨rfl, hb1⟩
        have HX := Lib.hid (HX.out.below hb1)
        have HBX := Lib.hid (below_step HBX.out HBX.out.size hb1)
        clear hb1
        go_wp2_with fail
        refine (normal_lib _ cap xs _ HX.out (.inr ⟨_, _, rfl⟩) HN.out).mono ?_
        rintro e z1 ⟨v, rfl, ho, hb1⟩
        rw [if_neg HC.out] at ho
        obtain ⟨C1, d1, rfl, _, _⟩ := ho.view (by decide)
        have HX := Lib.hid (HX.out.below hb1)
        have HBX := Lib.hid (below_step HBX.out HBX.out.size hb1)
        clear ho hb1
        simp only [List.length_nil]
        go_wp2_with fail
        refine (units_lib _ cap xs _ HX.out HN.out).mono ?_
        rintro e z2 ⟨v, rfl, ho, hb1⟩
        rw [if_neg HC.out] at ho
        obtain ⟨C2, d2, rfl, _, _⟩ := ho.view (by decide)
        have HX := Lib.hid (HX.out.below hb1)
        have HBX := Lib.hid (below_step HBX.out HBX.out.size hb1)
        clear ho hb1
        simp only [List.length_nil]
        go_wp2_with fail
        refine (arcs_lib _ cap xs _ HX.out HN.out).mono ?_
        rintro e z3 ⟨v, rfl, ho, hb1⟩
        rw [if_neg HC.out] at ho
        obtain ⟨C3, d3, rfl, _, _⟩ := ho.view (by decide)
        have HX := Lib.hid (HX.out.below hb1)
        have HBX := Lib.hid (below_step HBX.out HBX.out.size hb1)
        clear ho hb1
        simp only [List.length_nil]
        go_wp2_with fail
        refine (between_lib _ cap xs ⟨#[]⟩ ⟨#[]⟩ _ HX.out HN.out (by decide) (by decide)).mono ?_
        rintro e z4 ⟨v, rfl, ho, hb1⟩
        rw [if_neg HC2.out] at ho
        rw [HE2.out]
        skip
        obtain ⟨C4, d4, rfl, _, _⟩ := ho.view (by decide)
        have HX := Lib.hid (HX.out.below hb1)
        have HBX := Lib.hid (below_step HBX.out HBX.out.size hb1)
        clear ho hb1
        simp only [List.length_nil]
        go_wp2_with fail
        refine (opposed_lib _ cap xs _ HX.out HN.out).mono ?_
        rintro e z5 ⟨v, rfl, ho, hb1⟩
        rw [if_neg HC.out] at ho
        obtain ⟨C5, d5, rfl, _, _⟩ := ho.view (by decide)
        have HX := Lib.hid (HX.out.below hb1)
        have HBX := Lib.hid (below_step HBX.out HBX.out.size hb1)
        clear ho hb1
        simp only [List.length_nil]
        go_wp2_with fail
        refine (rename_lib _ cap xs ⟨#[]⟩ ⟨#[]⟩ _ HX.out (.inr ⟨_, _, rfl⟩) HN.out (by decide) (by decide)).mono ?_
        rintro e z6 ⟨v, rfl, ho, hb1⟩
        rw [if_neg HC3.out] at ho
        rw [HE3.out]
        skip
        obtain ⟨C6, d6, rfl, _, _⟩ := ho.view (by decide)
        have HX := Lib.hid (HX.out.below hb1)
        have HBX := Lib.hid (below_step HBX.out HBX.out.size hb1)
        clear ho hb1
        simp only [List.length_nil]
        go_wp2_with fail
        refine (without_lib _ cap xs ⟨#[]⟩ _ HX.out (.inr ⟨_, _, rfl⟩) HN.out (by decide)).mono ?_
        rintro e z7 ⟨v, rfl, ho, hb1⟩
        rw [if_neg HC1.out] at ho
        rw [HE1.out]
        skip
        obtain ⟨C7, d7, rfl, _, _⟩ := ho.view (by decide)
        have HX := Lib.hid (HX.out.below hb1)
        have HBX := Lib.hid (below_step HBX.out HBX.out.size hb1)
        clear ho hb1
        simp only [List.length_nil]
        generalize checkAllS xs = ce at *
        go_wp2_with fail
        go_ret
        exact ⟨rfl, HBX.out⟩
end Go.Proofs.YtpnobpnknlpjnaaGreatDoor
