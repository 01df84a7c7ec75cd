/- relation.Rename. -/
import Derived.Test.YtpnobpnknlpjnaaGreatDoorRenLaw
import Derived.Test.YtpnobpnknlpjnaaGreatDoorNormal
set_option linter.unusedVariables false
set_option linter.unusedSimpArgs false
namespace Go.Proofs.YtpnobpnknlpjnaaGreatDoor
open Go Go.RowKit

/-- The element after none, one, both of its names have been looked at. -/
def stageS (a b : ByteArray) (q : Nat) (x : Rel) : Rel := (x.1, if 1 ≤ q then renT a b x.2.1 else x.2.1, if 2 ≤ q then renT a b x.2.2 else x.2.2)
def stageL (a b : ByteArray) (xs : List Rel) (k : Nat) (x : Rel) (q : Nat) : List Rel := ((xs.map (renS a b)).take k ++ xs.drop k).set k (stageS a b q x)
theorem get_stage (a b : ByteArray) (xs : List Rel) (q : Nat) {k : Nat} {x : Rel} (h : xs[k]? = some x) : (stageL a b xs k x q)[k]? = some (stageS a b q x) := by
  have := lt_of_get h
  unfold stageL
  rw [List.getElem?_set_self (by simp; omega)]
theorem set_stage (a b : ByteArray) (xs : List Rel) (q : Nat) {k : Nat} {x : Rel} : (stageL a b xs k x q).set k (stageS a b (q + 1) x) = stageL a b xs k x (q + 1) := by
  unfold stageL
  rw [List.set_set]
theorem grown_cell {w w' : World} {g : Nat} (h : w.grownBy w' (some g)) {p : Addr} {v : Value} (hc : w.cell? p = some v) (hn : g ≠ p.block) : w'.cell? p = some v :=
  (World.cell?_of_block (h.block p.block (World.block_lt_of_cell? w p hc) (fun e => hn (by injection e with e; exact e.symm)))).trans hc

set_option maxRecDepth 10000 in
set_option maxHeartbeats 4000000 in
theorem rename_lib (A : Option Addr) (c : Nat) (xs : List Rel) (a b : ByteArray) (w : World) (hx : Rd encR w A xs) (haA : A = none ∨ ∃ b o, A = some ⟨b, o, none⟩) (hn : ∀ x ∈ xs, x.2.1.size ≤ 9223372036854775807 ∧ x.2.2.size ≤ 9223372036854775807) (ha : a.size ≤ 9223372036854775807) (hb : b.size ≤ 9223372036854775807) :
    Calls Tryz.prog 14 #[.slice A xs.length c, .string a, .string b] w fun e w' => ∃ v, e = .returned (.tuple #[v, .int .i64 (renameE xs a b)]) ∧ Own encR 3 25 w.heap.size w' v (if renameE xs a b = 0 then xs.map (renS a b) else []) ∧ Below w.heap.size w w' := by
  have hlx := hx.1
  have HN := Lib.hid hn
  have HX := Lib.hid hx
  have hab : ∀ s ∈ [a, b], s.size ≤ 9223372036854775807 := by simp [ha, hb]
  have HAB := Lib.hid hab
  clear hn hx hab ha hb
  by_cases hc : checkNamesS xs [a, b] = 0
  case neg =>
    have hre : renameE xs a b = checkNamesS xs [a, b] := if_neg hc
    rw [hre, if_neg hc]
    have hne : (checkNamesS xs [a, b] != 0) = true := by simp [hc]
    clear hc hre
    go_enter Tryz.func14, Tryz.ntmps14
    go_wp2_with fail
    refine (checkNames_any A _ c 2 xs [a, b] _ (HX.out.alloc _) (Rd.new encS _ [a, b] _ _ rfl _ rfl (by simp)) HN.out HAB.out).mono ?_
    rintro e w1 ⟨rfl, hb1⟩
    have HB1 := Lib.hid (below_step ((Below.refl _ _).alloc (Nat.le_refl _) _) (by simp) hb1)
    clear hb1
    go_wp2_with fail
    go_ret2
    exact ⟨_, rfl, Own.nil _ _ _ _ _, HB1.out⟩
  have h200 := (checkNames_len hc).1
  have hre : renameE xs a b = if renBad a b xs = true then 14 else 0 := if_pos hc
  have HC := Lib.hid hc
  have HRE := Lib.hid hre
  clear hc hre
  generalize renameE xs a b = re at *
  go_enter Tryz.func14, Tryz.ntmps14
  go_wp2_with fail
  refine (checkNames_any A _ c 2 xs [a, b] _ (HX.out.alloc _) (Rd.new encS _ [a, b] _ _ rfl _ rfl (by simp)) HN.out HAB.out).mono ?_
  rintro e w1 ⟨rfl, hb1⟩
  rw [HC.out]
  have HB1 := Lib.hid (below_step ((Below.refl _ _).alloc (Nat.le_refl _) _) (by simp) hb1)
  clear hb1
  go_wp2_with fail
  refine (clone_R A c xs _ (HX.out.below HB1.out) (by omega) haA).mono ?_
  rintro e w2 ⟨v, rfl, ho2, hb2⟩
  have HB2 := Lib.hid (below_step HB1.out HB1.out.size hb2)
  have hbase := HB1.out.size
  have HO2 := Lib.hid ho2
  have hsz2 : w.heap.size ≤ w2.heap.size := HB2.out.size
  clear hb2
  have hv : ∃ B d, v = .slice B xs.length d ∧ (xs = [] ∨ ∃ g, B = some ⟨g, 0, none⟩ ∧ w1.heap.size ≤ g) := by
    rcases ho2.2 with ⟨h, h1⟩ | ⟨g, cap, cur, h, h2, _⟩
    · have := List.eq_nil_of_length_eq_zero h1
      subst this
      exact ⟨none, 0, h, .inl rfl⟩
    · exact ⟨_, cap, h, .inr ⟨g, rfl, h2⟩⟩
  clear ho2
  obtain ⟨B, d, rfl, hB⟩ := hv
  go_wp2_with fail
  go_loopw [25] (fun i wr => ∃ k : Nat, k ≤ xs.length ∧ i = .int .i64 k ∧ Hid (renBad a b (xs.take k) = false) ∧ Hid (Own encR 3 25 w1.heap.size wr (.slice B xs.length d) ((xs.map (renS a b)).take k ++ xs.drop k)) ∧ Hid (Below w.heap.size w wr)) (fun i _ => xs.length - (intOf i).toNat)
  case atStart => exact ⟨0, Nat.zero_le _, rfl, Lib.hid rfl, Lib.hid (by simpa using HO2.out), HB2⟩
  case round =>
    obtain ⟨k, hk, rfl, HE, HW, HB⟩ := hrel
    by_cases hlt : k < xs.length
    · rcases hB with rfl | ⟨g, rfl, hg1⟩
      · exact absurd hlt (by simp)
      obtain ⟨x, ex⟩ := get_of_lt hlt
      obtain ⟨x0, x1, x2⟩ := HW.out.rel ((get_map_take (renS a b) xs).trans ex)
      have hset := set_map_take (renS a b) xs ex
      have HS := Lib.hid hset
      have EX := Lib.hid ex
      have hst0 : (xs.map (renS a b)).take k ++ xs.drop k = stageL a b xs k x 0 := by
        unfold stageL stageS
        simp only [show ¬ 1 ≤ 0 by omega, show ¬ 2 ≤ 0 by omega, if_false]
        exact (set_self_get ((get_map_take (renS a b) xs).trans ex)).symm
      have HW0 := Lib.hid (show Own encR 3 25 w1.heap.size wr (.slice (some ⟨g, 0, none⟩) xs.length d) (stageL a b xs k x 0) by rw [← hst0]; exact HW.out)
      have hgN : g ≠ wr.heap.size := fun e => by have := (HW.out.lt g rfl).2; omega
      have hgb : w.heap.size ≤ g := by omega
      have hbr := HB.out.size
      clear ex hset hst0 HW x0 x1 x2 HO2
      go_wp2_with fail
      go_region
      have hbw : Below wr.heap.size wr ((wr.alloc (.cells #[.pointer (some ⟨g, k * 3 + 1, none⟩), .pointer (some ⟨g, k * 3 + 2, none⟩)] 63)).drew) := below_drewN ((Below.refl _ _).alloc (Nat.le_refl _) _) 1
      have n0 : ((wr.alloc (.cells #[.pointer (some ⟨g, k * 3 + 1, none⟩), .pointer (some ⟨g, k * 3 + 2, none⟩)] 63)).drew).cell? ⟨wr.heap.size, 0, none⟩ = some (.pointer (some ⟨g, k * 3 + 1, none⟩)) := by simp
      have n1 : ((wr.alloc (.cells #[.pointer (some ⟨g, k * 3 + 1, none⟩), .pointer (some ⟨g, k * 3 + 2, none⟩)] 63)).drew).cell? ⟨wr.heap.size, 1, none⟩ = some (.pointer (some ⟨g, k * 3 + 2, none⟩)) := by simp
      have HOW := Lib.hid (HW0.out.below hbw)
      have HBW := Lib.hid (below_step HB.out HB.out.size hbw)
      have HC0 := Lib.hid (And.intro n0 n1)
      clear hbw n0 n1 HW0 HB
      generalize (wr.alloc (.cells #[.pointer (some ⟨g, k * 3 + 1, none⟩), .pointer (some ⟨g, k * 3 + 2, none⟩)] 63)).drew = W at HOW HBW HC0 ⊢
      generalize wr.heap.size = N at hgN HC0 hbr ⊢
      go_wp2_with fail
      go_loopw [38] (fun j wi => ∃ q : Nat, q ≤ 2 ∧ j = .int .i64 q ∧ Hid (Own encR 3 25 w1.heap.size wi (.slice (some ⟨g, 0, none⟩) xs.length d) (stageL a b xs k x q)) ∧ Hid (wi.cell? ⟨N, 0, none⟩ = some (.pointer (some ⟨g, k * 3 + 1, none⟩)) ∧ wi.cell? ⟨N, 1, none⟩ = some (.pointer (some ⟨g, k * 3 + 2, none⟩))) ∧ Hid (Below w.heap.size w wi)) (fun j _ => 2 - (intOf j).toNat)
      case atStart => exact ⟨0, Nat.zero_le _, rfl, HOW, HC0, HBW⟩
      case round =>
        obtain ⟨q, hq, rfl, HI, HC, HBI⟩ := hrel
        clear HOW HC0 HBW
        rcases (show q = 0 ∨ q = 1 ∨ q = 2 by omega) with hq0 | hq0 | hq0

        · -- field 1
          subst hq0
          have hget := get_stage a b xs 0 EX.out
          obtain ⟨y0, y1, y2⟩ := HI.out.rel hget
          have hi1 := HI.out.ice (k * 3 + 1)
          obtain ⟨n0, n1⟩ := HC.out
          have eq1 : (x.2.1.toList == a.toList) = decide (x.2.1 = a) := K.beq_str _ _
          simp only [stageS] at y0 y1 y2
          by_cases hp : x.2.1 = a
          · rw [decide_eq_true hp] at eq1
            obtain ⟨r1, r2⟩ := own_cell (k := 3) (fun _ => rfl) HI.out hget (j := 1) (by decide) (.string b) (y := stageS a b 1 x) (by simp [encR, stageS, renT, hp])
            rw [set_stage a b xs 0] at r1
            have HI2 := Lib.hid r1
            have HC2 := Lib.hid (show _ ∧ _ from ⟨grown_cell r2 n0 hgN, grown_cell r2 n1 hgN⟩)
            have HB2 := Lib.hid (HBI.out.grown r2 HBI.out.size (fun j hj => by cases hj; exact hgb))
            clear r1 r2 hp hget
            go_wp2_with fail
            go_roundw
            case rel => exact ⟨1, by omega, by go_num, HI2, HC2, HB2⟩
            case measure => simp [intOf]
          · rw [decide_eq_false hp] at eq1
            have HI2 := Lib.hid (show Own encR 3 25 w1.heap.size wr (.slice (some ⟨g, 0, none⟩) xs.length d) (stageL a b xs k x 1) by
              have := HI.out
              have e : stageL a b xs k x 0 = stageL a b xs k x 1 := by simp [stageL, stageS, renT, hp]
              rwa [e] at this)
            clear hp hget
            go_wp2_with fail
            go_roundw
            case rel => exact ⟨1, by omega, by go_num, HI2, HC, HBI⟩
            case measure => simp [intOf]

        · -- field 2
          subst hq0
          have hget := get_stage a b xs 1 EX.out
          obtain ⟨y0, y1, y2⟩ := HI.out.rel hget
          have hi1 := HI.out.ice (k * 3 + 2)
          obtain ⟨n0, n1⟩ := HC.out
          have eq1 : (x.2.2.toList == a.toList) = decide (x.2.2 = a) := K.beq_str _ _
          simp only [stageS] at y0 y1 y2
          by_cases hp : x.2.2 = a
          · rw [decide_eq_true hp] at eq1
            obtain ⟨r1, r2⟩ := own_cell (k := 3) (fun _ => rfl) HI.out hget (j := 2) (by decide) (.string b) (y := stageS a b 2 x) (by simp [encR, stageS, renT, hp])
            rw [set_stage a b xs 1] at r1
            have HI2 := Lib.hid r1
            have HC2 := Lib.hid (show _ ∧ _ from ⟨grown_cell r2 n0 hgN, grown_cell r2 n1 hgN⟩)
            have HB2 := Lib.hid (HBI.out.grown r2 HBI.out.size (fun j hj => by cases hj; exact hgb))
            clear r1 r2 hp hget
            go_wp2_with fail
            go_roundw
            case rel => exact ⟨2, by omega, by go_num, HI2, HC2, HB2⟩
            case measure => simp [intOf]
          · rw [decide_eq_false hp] at eq1
            have HI2 := Lib.hid (show Own encR 3 25 w1.heap.size wr (.slice (some ⟨g, 0, none⟩) xs.length d) (stageL a b xs k x 2) by
              have := HI.out
              have e : stageL a b xs k x 1 = stageL a b xs k x 2 := by simp [stageL, stageS, renT, hp]
              rwa [e] at this)
            clear hp hget
            go_wp2_with fail
            go_roundw
            case rel => exact ⟨2, by omega, by go_num, HI2, HC, HBI⟩
            case measure => simp [intOf]
        · subst hq0
          have hst2 : stageL a b xs k x 2 = (xs.map (renS a b)).take (k + 1) ++ xs.drop (k + 1) := by
            rw [← HS.out]
            unfold stageL stageS
            simp only [show 1 ≤ 2 by omega, show 2 ≤ 2 by omega, if_true]
            rfl
          have hget := get_stage a b xs 2 EX.out
          obtain ⟨y0, y1, y2⟩ := HI.out.rel hget
          have e2 : stageS a b 2 x = renS a b x := by unfold stageS renS; simp
          rw [e2] at y0 y1 y2
          have eq1 : ((renS a b x).2.1.toList == (renS a b x).2.2.toList) = badB (renS a b x) := K.beq_str _ _
          have HI2 := Lib.hid (show Own encR 3 25 w1.heap.size wr (.slice (some ⟨g, 0, none⟩) xs.length d) ((xs.map (renS a b)).take (k + 1) ++ xs.drop (k + 1)) by rw [← hst2]; exact HI.out)
          clear hst2 hget e2 HI HC
          cases hbd : badB (renS a b x) with
          | true =>
            have hr : re = 14 := by rw [HRE.out, if_pos (renBad_take EX.out hbd)]
            rw [hbd] at eq1
            clear hbd HRE
            subst hr
            generalize renS a b x = rx at *
            go_wp2_with fail
            go_quiet (fail)
            go_wp2_with fail
            go_ret2
            exact ⟨_, rfl, Own.nil _ _ _ _ _, below_drewN HBI.out _⟩
          | false =>
            have HE2 := Lib.hid (show renBad a b (xs.take (k + 1)) = false by rw [renBad_step EX.out, HE.out, hbd]; rfl)
            rw [hbd] at eq1
            clear hbd HE
            generalize renS a b x = rx at *
            go_wp2_with fail
            go_quiet (fail)
            go_wp2_with fail
            go_roundw
            case rel => exact ⟨k + 1, by omega, by go_num, HE2, Lib.hid (HI2.out.below (below_drewN (Below.refl _ _) _)), Lib.hid (below_drewN HBI.out _)⟩
            case measure => simp [intOf]; omega
    · have hge : ¬ (k : Int) < (xs.length : Int) := by omega
      have hkl : k = xs.length := by omega
      have hr : re = 0 := by
        have h := HE.out
        rw [hkl, List.take_length] at h
        rw [HRE.out, h]; rfl
      have HW2 := Lib.hid (show Own encR 3 25 w.heap.size wr (.slice B xs.length d) (xs.map (renS a b)) by
        have h9 := HW.out
        rw [List.take_of_length_le (by simp; omega), List.drop_eq_nil_of_le (by omega), List.append_nil] at h9
        exact World.ownsRow.mono h9 hbase)
      clear HRE HE HW hkl HO2
      subst hr
      go_wp2_with fail
      go_ret2
      exact ⟨_, rfl, HW2.out, HB.out⟩
end Go.Proofs.YtpnobpnknlpjnaaGreatDoor
