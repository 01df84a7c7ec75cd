/- The statement about names, walked. -/
import Derived.Test.YtpnobpnknlpjnaaDoorRename
import Derived.Test.YtpnobpnknlpjnaaDoorDelete
import Derived.Test.YtpnobpnknlpjnaaDoorKnown
import Derived.Test.YtpnobpnknlpjnaaDoorLawNormals
set_option linter.unusedVariables false
set_option linter.unusedSimpArgs false
namespace Go.Proofs.YtpnobpnknlpjnaaDoor
open Go Go.RowKit

def nA : ByteArray := ⟨#[97]⟩
def nB : ByteArray := ⟨#[98]⟩
def nC : ByteArray := ⟨#[99]⟩
def oneR : List Rel := [(2, nA, nB)]
theorem one_all : checkAllS oneR = 0 := by decide +kernel
theorem one_size : ∀ x ∈ oneR, x.2.1.size ≤ 9223372036854775807 ∧ x.2.2.size ≤ 9223372036854775807 := by decide +kernel
theorem name_a : isNameS nA = true := by decide +kernel
theorem name_c : isNameS nC = true := by decide +kernel
theorem one_t (s : ByteArray) (h : isNameS s = true) : checkNamesS oneR [nA, s] = 0 ∧ checkNamesS oneR [s] = 0 := by
  simp [checkNamesS, allNames, one_all, name_a, h]
theorem one_f (s : ByteArray) (h : isNameS s = false) : checkNamesS oneR [nA, s] = 8 ∧ renameE oneR s nC = 8 ∧ renameE oneR nC s = 8 ∧ checkNamesS oneR [s] = 8 := by
  simp [renameE, checkNamesS, allNames, one_all, name_a, name_c, h]
theorem betw_len (a b : ByteArray) : (betweenS oneR a b).length ≤ 1 := placesTo_len _ _ _
theorem drop_one (s : ByteArray) : (dropS s oneR).length ≤ 1 := List.length_filter_le _ _

set_option maxRecDepth 10000 in
set_option maxHeartbeats 8000000 in
theorem law_names (s : ByteArray) (w : World) (hm : Mx w) (hs : s.size ≤ 9223372036854775807) :
    Calls Tryd.prog 8 #[.string s] w fun e w' => e = .returned (.bool true) ∧ Below w.heap.size w w' := by
  have HM := Lib.hid hm
  clear hm
  rcases Nat.lt_or_ge 40 s.size with hlen | hlen
  · have h12 : (40 : Int) < (s.size : Int) := by omega
    go_enter Tryd.func8, Tryd.ntmps8
    go_wp2_with fail
    refine (known_any _ HM.out).mono ?_
    rintro e w1 ⟨rfl, hb⟩
    have HB := Lib.hid hb
    clear hb
    go_wp2_with fail
    refine (known_any _ (HM.out.below HB.out HM.out.pos)).mono ?_
    rintro e w2 ⟨rfl, hb⟩
    have HB2 := Lib.hid (below_step HB.out HB.out.size hb)
    clear hb
    go_wp2_with fail
    go_ret
    exact ⟨rfl, HB2.out⟩
  have h12 : ¬ (40 : Int) < (s.size : Int) := by omega
  cases hn : isNameS s
  case true =>
    have HN := Lib.hid hn
    obtain ⟨q1, q4⟩ := one_t s hn
    have Q1 := Lib.hid q1
    have Q4 := Lib.hid q4
    skip
    skip
    clear hn q1 q4 
    go_enter Tryd.func8, Tryd.ntmps8
    go_wp2_with fail
    refine (known_any _ HM.out).mono ?_
    rintro e w1 ⟨rfl, hb⟩
    have HB := Lib.hid hb
    clear hb
    go_wp2_with fail
    have hrd0 := Rd.new encR w1 oneR 33 w1.heap.size rfl #[.int .i64 2, .string nA, .string nB] rfl (by decide)
    have HB1 := Lib.hid (HB.out.alloc HB.out.size (.cells #[.int .i64 2, .string nA, .string nB] 33))
    have HR0 := Lib.hid hrd0
    clear hrd0 HB
    refine (between_lib _ 1 oneR nA s _ HR0.out one_size (by decide) hs).mono ?_
    rintro e w2 ⟨v2, rfl, ho, hb⟩
    rw [Q1.out] at ho
    rw [Q1.out]
    rw [if_pos rfl] at ho
    obtain ⟨B2, c2, rfl, _, _⟩ := ho.view (Nat.le_trans (betw_len _ _) (by decide))
    have HR2 := Lib.hid (HR0.out.below hb)
    have HB2 := Lib.hid (below_step HB1.out HB1.out.size hb)
    clear ho hb HR0
    generalize (betweenS oneR nA s).length = l2 at *
    go_wp2_with fail
    refine (rename_lib _ 1 oneR s nC _ HR2.out (.inr ⟨_, _, rfl⟩) one_size hs (by decide)).mono ?_
    rintro e w3 ⟨v3, rfl, ho, hb⟩
    skip
    skip
    obtain ⟨L3, hl3⟩ : ∃ L3, L3 = (if renameE oneR s nC = 0 then oneR.map (renS s nC) else []) := ⟨_, rfl⟩
    rw [← hl3] at ho
    obtain ⟨B3, c3, rfl, _, _⟩ := ho.view (by rw [hl3]; split <;> simp [oneR])
    have HR3 := Lib.hid (HR2.out.below hb)
    have HB3 := Lib.hid (below_step HB2.out HB2.out.size hb)
    clear ho hb HR2 hl3
    generalize L3.length = l3 at *
    generalize renameE oneR s nC = r3 at *
    go_wp2_with fail
    refine (rename_lib _ 1 oneR nC s _ HR3.out (.inr ⟨_, _, rfl⟩) one_size (by decide) hs).mono ?_
    rintro e w4 ⟨v4, rfl, ho, hb⟩
    skip
    skip
    obtain ⟨L4, hl4⟩ : ∃ L4, L4 = (if renameE oneR nC s = 0 then oneR.map (renS nC s) else []) := ⟨_, rfl⟩
    rw [← hl4] at ho
    obtain ⟨B4, c4, rfl, _, _⟩ := ho.view (by rw [hl4]; split <;> simp [oneR])
    have HR4 := Lib.hid (HR3.out.below hb)
    have HB4 := Lib.hid (below_step HB3.out HB3.out.size hb)
    clear ho hb HR3 hl4
    generalize L4.length = l4 at *
    generalize renameE oneR nC s = r4 at *
    go_wp2_with fail
    refine (without_lib _ 1 oneR s _ HR4.out (.inr ⟨_, _, rfl⟩) one_size hs).mono ?_
    rintro e w5 ⟨v5, rfl, ho, hb⟩
    rw [Q4.out] at ho
    rw [Q4.out]
    rw [if_pos rfl] at ho
    obtain ⟨B5, c5, rfl, _, _⟩ := ho.view (Nat.le_trans (drop_one _) (by decide))
    have HB5 := Lib.hid (below_step HB4.out HB4.out.size hb)
    clear ho hb HR4
    generalize (dropS s oneR).length = l5 at *
    go_wp2_with fail
    refine (isName_lib s _ hs).mono ?_
    rintro e w6 ⟨rfl, hb⟩
    have HB6 := Lib.hid (below_step HB5.out HB5.out.size hb)
    clear hb
    rw [HN.out]
    go_wp2_with fail
    refine (isName_law s _ hs).mono ?_
    rintro e w7 ⟨rfl, rfl⟩
    rw [HN.out]
    skip
    go_wp2_with fail
    refine (isName_law s _ hs).mono ?_
    rintro e w8 ⟨rfl, rfl⟩
    rw [HN.out]
    skip
    go_wp2_with fail
    go_ret
    exact ⟨rfl, HB6.out⟩
  case false =>
    have HN := Lib.hid hn
    obtain ⟨q1, q2, q3, q4⟩ := one_f s hn
    have Q1 := Lib.hid q1
    have Q4 := Lib.hid q4
    have Q2 := Lib.hid q2
    have Q3 := Lib.hid q3
    clear hn q1 q4 q2 q3
    go_enter Tryd.func8, Tryd.ntmps8
    go_wp2_with fail
    refine (known_any _ HM.out).mono ?_
    rintro e w1 ⟨rfl, hb⟩
    have HB := Lib.hid hb
    clear hb
    go_wp2_with fail
    have hrd0 := Rd.new encR w1 oneR 33 w1.heap.size rfl #[.int .i64 2, .string nA, .string nB] rfl (by decide)
    have HB1 := Lib.hid (HB.out.alloc HB.out.size (.cells #[.int .i64 2, .string nA, .string nB] 33))
    have HR0 := Lib.hid hrd0
    clear hrd0 HB
    refine (between_lib _ 1 oneR nA s _ HR0.out one_size (by decide) hs).mono ?_
    rintro e w2 ⟨v2, rfl, ho, hb⟩
    rw [Q1.out] at ho
    rw [Q1.out]
    rw [if_neg (by decide)] at ho
    obtain ⟨B2, c2, rfl, _, _⟩ := ho.view (by decide)
    have HR2 := Lib.hid (HR0.out.below hb)
    have HB2 := Lib.hid (below_step HB1.out HB1.out.size hb)
    clear ho hb HR0
    simp only [List.length_nil]
    go_wp2_with fail
    refine (rename_lib _ 1 oneR s nC _ HR2.out (.inr ⟨_, _, rfl⟩) one_size hs (by decide)).mono ?_
    rintro e w3 ⟨v3, rfl, ho, hb⟩
    rw [Q2.out] at ho ⊢
    rw [if_neg (by decide)] at ho
    skip
    skip
    obtain ⟨B3, c3, rfl, _, _⟩ := ho.view (by decide)
    have HR3 := Lib.hid (HR2.out.below hb)
    have HB3 := Lib.hid (below_step HB2.out HB2.out.size hb)
    clear ho hb HR2 
    simp only [List.length_nil]
    skip
    go_wp2_with fail
    refine (rename_lib _ 1 oneR nC s _ HR3.out (.inr ⟨_, _, rfl⟩) one_size (by decide) hs).mono ?_
    rintro e w4 ⟨v4, rfl, ho, hb⟩
    rw [Q3.out] at ho ⊢
    rw [if_neg (by decide)] at ho
    skip
    skip
    obtain ⟨B4, c4, rfl, _, _⟩ := ho.view (by decide)
    have HR4 := Lib.hid (HR3.out.below hb)
    have HB4 := Lib.hid (below_step HB3.out HB3.out.size hb)
    clear ho hb HR3 
    simp only [List.length_nil]
    skip
    go_wp2_with fail
    refine (without_lib _ 1 oneR s _ HR4.out (.inr ⟨_, _, rfl⟩) one_size hs).mono ?_
    rintro e w5 ⟨v5, rfl, ho, hb⟩
    rw [Q4.out] at ho
    rw [Q4.out]
    rw [if_neg (by decide)] at ho
    obtain ⟨B5, c5, rfl, _, _⟩ := ho.view (by decide)
    have HB5 := Lib.hid (below_step HB4.out HB4.out.size hb)
    clear ho hb HR4
    simp only [List.length_nil]
    go_wp2_with fail
    refine (isName_lib s _ hs).mono ?_
    rintro e w6 ⟨rfl, hb⟩
    have HB6 := Lib.hid (below_step HB5.out HB5.out.size hb)
    clear hb
    rw [HN.out]
    go_wp2_with fail
    refine (isName_law s _ hs).mono ?_
    rintro e w7 ⟨rfl, rfl⟩
    rw [HN.out]
    skip
    go_wp2_with fail
    refine (isName_law s _ hs).mono ?_
    rintro e w8 ⟨rfl, rfl⟩
    rw [HN.out]
    skip
    go_wp2_with fail
    go_ret
    exact ⟨rfl, HB6.out⟩
end Go.Proofs.YtpnobpnknlpjnaaDoor
