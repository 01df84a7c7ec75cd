/- The statement about renaming, walked. -/
import Derived.Test.YtpnobpnknlpjnaaDoorRenSt
import Derived.Test.YtpnobpnknlpjnaaDoorRename
import Derived.Test.YtpnobpnknlpjnaaDoorDelete
import Derived.Test.YtpnobpnknlpjnaaDoorLawNormals
import Derived.Test.YtpnobpnknlpjnaaDoorQTail
import Derived.Deep.LoopGhost
import Derived.Deep.DeepCutAuto
set_option linter.unusedVariables false
set_option linter.unusedSimpArgs false
namespace Go.Proofs.YtpnobpnknlpjnaaDoor
open Go Go.RowKit

set_option maxRecDepth 10000 in
set_option maxHeartbeats 8000000 in
theorem law_renames (A : Option Addr) (len cap : Nat) (a b : Int) (w : World) (hm : Mx w) (hl : len ≤ 9223372036854775807) (h : len ≤ 12 → ∃ xs : List (Int × Int × Int), xs.length = len ∧ Rd enc3 w A xs ∧ ∀ d ∈ xs, (0 ≤ d.1 ∧ d.1 ≤ 255) ∧ (0 ≤ d.2.1 ∧ d.2.1 ≤ 255) ∧ (0 ≤ d.2.2 ∧ d.2.2 ≤ 255)) (ha : 0 ≤ a ∧ a ≤ 255) (hb : 0 ≤ b ∧ b ≤ 255) :
    Calls Tryd.prog 7 #[.slice A len cap, .int .u8 a, .int .u8 b] w fun e w' => e = .returned (.bool true) ∧ Below w.heap.size w w' := by
  have HM := Lib.hid hm
  clear hm
  rcases Nat.lt_or_ge 12 len with hlen | hlen
  · clear h
    have h12 : (12 : Int) < (len : Int) := by omega
    go_enter Tryd.func7, Tryd.ntmps7
    go_wp2_with fail
    refine (known_any _ HM.out).mono ?_
    rintro e w1 ⟨rfl, hb1⟩
    have HB := Lib.hid hb1
    clear hb1
    go_wp2_with fail
    refine (known_any _ (HM.out.below HB.out HM.out.pos)).mono ?_
    rintro e w2 ⟨rfl, hb1⟩
    have HB2 := Lib.hid (below_step HB.out HB.out.size hb1)
    clear hb1
    go_wp2_with fail
    go_ret
    exact ⟨rfl, HB2.out⟩
  obtain ⟨xs, rfl, hx, hr⟩ := h hlen
  have h12 : ¬ (12 : Int) < (xs.length : Int) := by omega
  have HX := Lib.hid hx
  have HR := Lib.hid hr
  have hna := name_unit a (Int.emod_nonneg _ (by omega))
  have hnb := name_unit b (Int.emod_nonneg _ (by omega))
  have hsa : (unitS a).size ≤ 9223372036854775807 := by rw [size_unit]; omega
  have hsb : (unitS b).size ≤ 9223372036854775807 := by rw [size_unit]; omega
  have hml := makeS_len xs
  have HMS := Lib.hid (makeS_size xs)
  have HM2 := Lib.hid (names_two (makeS_all xs) hna hnb)
  have HM1 := Lib.hid (names_one (makeS_all xs) hna)
  have HMK := Lib.hid (show makeS xs = makeS xs from rfl)
  clear hx hr h hna hnb
  go_enter Tryd.func7, Tryd.ntmps7
  go_wp2_with fail
  refine (known_any _ HM.out).mono ?_
  rintro e w1 ⟨rfl, hb1⟩
  have HB := Lib.hid hb1
  clear hb1
  go_wp2_with fail
  refine (make_any A cap xs _ (HX.out.below HB.out) HR.out).mono ?_
  rintro e w2 ⟨v, rfl, ho, hb1⟩
  generalize makeS xs = m at ho HMS HM1 HM2 HMK hml
  obtain ⟨B, c, rfl, hrd, hBo⟩ := ho.view (by omega)
  have HB2 := Lib.hid (below_step HB.out HB.out.size hb1)
  have HV := Lib.hid hrd
  clear ho hb1 hrd HX HR HMK h12 hlen
  go_wp2_with fail
  refine (unit_any a _ ha.1 ha.2).mono ?_
  rintro e w3 ⟨rfl, hb1⟩
  have HV3 := Lib.hid (HV.out.below hb1)
  have HB3 := Lib.hid (below_step HB2.out HB2.out.size hb1)
  clear hb1 HV
  go_wp2_with fail
  refine (unit_any b _ hb.1 hb.2).mono ?_
  rintro e w4 ⟨rfl, hb1⟩
  have HV4 := Lib.hid (HV3.out.below hb1)
  have HB4 := Lib.hid (below_step HB3.out HB3.out.size hb1)
  clear hb1 HV3
  go_wp2_with fail
  refine (rename_lib B c m (unitS a) (unitS b) _ HV4.out hBo HMS.out hsa hsb).mono ?_
  rintro e w5 ⟨v5, rfl, ho, hb1⟩
  have hre : renameE m (unitS a) (unitS b) = if renBad (unitS a) (unitS b) m = true then 14 else 0 := if_pos HM2.out
  have HRE := Lib.hid hre
  clear hre
  generalize renameE m (unitS a) (unitS b) = re at *
  obtain ⟨RL, hrl⟩ : ∃ RL, RL = if re = 0 then m.map (renS (unitS a) (unitS b)) else [] := ⟨_, rfl⟩
  rw [← hrl] at ho
  have hrll : RL.length ≤ 12 := by rw [hrl]; split <;> simp; omega
  have HRL := Lib.hid hrl
  clear hrl
  obtain ⟨B5, c5, rfl, hrd, hB5⟩ := ho.view (by omega)
  have HY5 := Lib.hid hrd
  have HV5 := Lib.hid (HV4.out.below hb1)
  have HB5 := Lib.hid (below_step HB4.out HB4.out.size hb1)
  clear ho hb1 hrd HV4
  go_wp2_with fail
  refine (unit_any a _ ha.1 ha.2).mono ?_
  rintro e w6 ⟨rfl, hb1⟩
  have HV6 := Lib.hid (HV5.out.below hb1)
  have HY6 := Lib.hid (HY5.out.below hb1)
  have HB6 := Lib.hid (below_step HB5.out HB5.out.size hb1)
  clear hb1 HV5 HY5
  go_wp2_with fail
  refine (without_lib B c m (unitS a) _ HV6.out hBo HMS.out hsa).mono ?_
  rintro e w7 ⟨v7, rfl, ho, hb1⟩
  rw [if_pos HM1.out] at ho
  rw [HM1.out]
  have hdl : (dropS (unitS a) m).length ≤ 12 := Nat.le_trans (List.length_filter_le _ _) hml
  obtain ⟨B7, c7, rfl, hrd, hB7⟩ := ho.view (by omega)
  have HZ := Lib.hid hrd
  have HY := Lib.hid (HY6.out.below hb1)
  have HV := Lib.hid (HV6.out.below hb1)
  have HB7 := Lib.hid (below_step HB6.out HB6.out.size hb1)
  clear ho hb1 hrd HV6 HY6 HB HB2 HB3 HB4 HB5 HB6
  generalize hN : (dropS (unitS a) m).length = ND at hdl ⊢
  have HND := Lib.hid hN
  clear hN
  go_wp2_with fail
  go_loopg [12, 13, 14, 15] m.length (fun gg s12 s13 s14 s15 wr => ∃ (k : Nat) (wn : Int), k ≤ m.length ∧ m.length - k ≤ gg ∧ s15 = .int .i64 k ∧ s14 = .int .i64 wn ∧ Hid (wn = if renBad (unitS a) (unitS b) (m.take k) = true then 14 else 0) ∧ Hid (Own encR 3 33 w7.heap.size wr s12 ((m.take k).map (renS (unitS a) (unitS b)))) ∧ Hid (Own encR 3 33 w7.heap.size wr s13 (dropS (unitS a) (m.take k))) ∧ Hid (s12.ownBlock = none ∨ s12.ownBlock ≠ s13.ownBlock) ∧ Hid (Below w7.heap.size w7 wr))
  case atStart => exact ⟨0, 0, Nat.zero_le _, by omega, rfl, rfl, Lib.hid rfl, Lib.hid (Own.nil _ _ _ _ _), Lib.hid (Own.nil _ _ _ _ _), Lib.hid (.inl rfl), Lib.hid (Below.refl _ _)⟩
  case round =>
    obtain ⟨k, wn, hk, hg, rfl, rfl, HWN, HA, HB', AB, HBR⟩ := hrel
    by_cases hlt : k < m.length
    · have hltz : (k : Int) < (m.length : Int) := by omega
      obtain ⟨x, ex⟩ := get_of_lt hlt
      obtain ⟨b0, o0, rfl, x0, x1, x2⟩ := (HV.out.below HBR.out).rel ex
      have EX := Lib.hid ex
      have hlA : ((m.take k).map (renS (unitS a) (unitS b))).length ≤ 1000000 := by simp; omega
      have hlB : (dropS (unitS a) (m.take k)).length ≤ 1000000 := Nat.le_trans (drop_len _ _ _) (by omega)
      clear ex
      by_cases h1 : x.2.1 = unitS a
      · by_cases h2 : x.2.2 = unitS a
        · -- both
          have e1 : (x.2.1.toList == (unitS a).toList) = true := by rw [K.beq_str]; simp [h1]
          have e2 : (x.2.2.toList == (unitS a).toList) = true := by rw [K.beq_str]; simp [h2]
          have HH := Lib.hid (show hasB (unitS a) x = true by simp [hasB, h1, h2])
          have HY1 := Lib.hid (show renS (unitS a) (unitS b) x = ((x.1, unitS b, unitS b) : Rel) by simp [renS, renT, h1, h2])
          clear h1 h2
          go_wp2_with fail
          have S0 := Lib.hid (St.new HA.out HB'.out AB.out HBR.out x)
          generalize wr.alloc (.cells #[.int .i64 x.1, .string x.2.1, .string x.2.2] 33) = z0 at S0 ⊢
          generalize wr.heap.size = N at S0 ⊢
          clear HA HB' AB HBR x0 x1 x2
          obtain ⟨_, c1, c2⟩ := S0.out.cells
          have k1 := cell_regrown c1
          have k2 := cell_regrown c2
          have cQ := low_call (w := z0) (fun W _ => unit_any a W ha.1 ha.2)
          clear c1 c2
          refine wp_region_low_tail 11 (by kernel_rfl) (by kernel_rfl) ?_
          simp only [List.take_succ_cons, List.take_zero, List.drop_succ_cons, List.drop_zero]
          repeat (go_big_quiet_step (exact cQ _ _))
          refine wpQuiet_nil ?_
          intro z1 hwz1
          have hbz1 := low_of hwz1
          clear hwz1 cQ k1 k2
          have Sz1 := Lib.hid (S0.out.below hbz1)
          clear hbz1
          go_wp2_with fail
          obtain ⟨_, c1, c2⟩ := Sz1.out.cells
          have k1 := cell_regrown c1
          have k2 := cell_regrown c2
          have cQ := low_call (w := z1) (fun W _ => unit_any a W ha.1 ha.2)
          clear c1 c2
          refine wp_region_low_tail 4 (by kernel_rfl) (by kernel_rfl) ?_
          simp only [List.take_succ_cons, List.take_zero, List.drop_succ_cons, List.drop_zero]
          repeat (go_big_quiet_step (exact cQ _ _))
          refine wpQuiet_nil ?_
          intro z3 hwz3
          have hbz3 := low_of hwz3
          clear hwz3 cQ k1 k2
          have Sz3 := Lib.hid (Sz1.out.below hbz3)
          clear hbz3
          go_wp2_with fail
          refine (unit_any b _ hb.1 hb.2).mono ?_
          rintro e z4 ⟨rfl, hb4⟩
          have Sz4 := Lib.hid (Sz3.out.below hb4)
          clear hb4
          obtain ⟨c0, c1, c2⟩ := Sz4.out.cells
          have i1 := Sz4.out.ice 1
          have Sz5 := Lib.hid (Sz4.out.store 1 (by decide) (.string (unitS b)) (x.1, unitS b, x.2.2) rfl)
          go_wp2_with fail
          generalize z4.setCell ⟨N, 1, none⟩ (.string (unitS b)) = z5 at Sz5 ⊢
          clear c0 c1 c2 i1
          obtain ⟨_, c1, c2⟩ := Sz5.out.cells
          have k1 := cell_regrown c1
          have k2 := cell_regrown c2
          have cQ := low_call (w := z5) (fun W _ => unit_any a W ha.1 ha.2)
          clear c1 c2
          refine wp_region_low_tail 4 (by kernel_rfl) (by kernel_rfl) ?_
          simp only [List.take_succ_cons, List.take_zero, List.drop_succ_cons, List.drop_zero]
          repeat (go_big_quiet_step (exact cQ _ _))
          refine wpQuiet_nil ?_
          intro z6 hwz6
          have hbz6 := low_of hwz6
          clear hwz6 cQ k1 k2
          have Sz6 := Lib.hid (Sz5.out.below hbz6)
          clear hbz6
          go_wp2_with fail
          refine (unit_any b _ hb.1 hb.2).mono ?_
          rintro e z7 ⟨rfl, hb7⟩
          have Sz7 := Lib.hid (Sz6.out.below hb7)
          clear hb7
          obtain ⟨c0, c1, c2⟩ := Sz7.out.cells
          have i2 := Sz7.out.ice 2
          have Sz8 := Lib.hid (Sz7.out.store 2 (by decide) (.string (unitS b)) (x.1, unitS b, unitS b) rfl)
          go_upto_region 18 with fail
          generalize z7.setCell ⟨N, 2, none⟩ (.string (unitS b)) = z8 at Sz8 ⊢
          clear c0 c1 c2 i2
          have e3 : ((unitS b).toList == (unitS b).toList) = badB ((x.1, unitS b, unitS b) : Rel) := K.beq_str _ _
          have HRS := Lib.hid (show (m.take (k + 1)).map (renS (unitS a) (unitS b)) = (m.take k).map (renS (unitS a) (unitS b)) ++ [((x.1, unitS b, unitS b) : Rel)] by rw [map_step EX.out, HY1.out])
          have HDS := Lib.hid (show dropS (unitS a) (m.take (k + 1)) = dropS (unitS a) (m.take k) by rw [drop_step EX.out, HH.out]; simp)
          have hbd : badB ((x.1, unitS b, unitS b) : Rel) = true := by simp [badB]
          have HRB := Lib.hid (show renBad (unitS a) (unitS b) (m.take (k + 1)) = true by rw [renBad_step EX.out, HY1.out, hbd]; simp)
          rw [hbd] at e3
          clear hbd
          obtain ⟨c0, c1, c2⟩ := Sz8.out.cells
          have HR := Lib.hid (Sz8.out.appA (by simp; omega) z8.heap.size rfl)
          go_wp2_with (at_builtin; go_must (refine wpList_append_run rfl (.tmp 90) (.tmp 92) 24 rfl _ _ rfl rfl HR.out ?_))
          intro v9 z9 hs9
          have Sz9 := Lib.hid hs9
          clear hs9 HR
          go_wp2_with fail
          go_roundg (m.length - (k + 1))
          case measure => omega
          case rel => exact ⟨k + 1, 14, by omega, Nat.le_refl _, by go_num, rfl, Lib.hid (by rw [HRB.out]; rfl), Lib.hid (by rw [HRS.out, List.map_take]; exact Sz9.out.a), Lib.hid (by rw [HDS.out]; exact Sz9.out.b), Lib.hid Sz9.out.ab, Lib.hid Sz9.out.bel⟩
        · -- the upper one
          have e1 : (x.2.1.toList == (unitS a).toList) = true := by rw [K.beq_str]; simp [h1]
          have e2 : (x.2.2.toList == (unitS a).toList) = false := by rw [K.beq_str]; simp [h2]
          have HH := Lib.hid (show hasB (unitS a) x = true by simp [hasB, h1, h2])
          have HY1 := Lib.hid (show renS (unitS a) (unitS b) x = ((x.1, unitS b, x.2.2) : Rel) by simp [renS, renT, h1, h2])
          clear h1 h2
          go_wp2_with fail
          have S0 := Lib.hid (St.new HA.out HB'.out AB.out HBR.out x)
          generalize wr.alloc (.cells #[.int .i64 x.1, .string x.2.1, .string x.2.2] 33) = z0 at S0 ⊢
          generalize wr.heap.size = N at S0 ⊢
          clear HA HB' AB HBR x0 x1 x2
          obtain ⟨_, c1, c2⟩ := S0.out.cells
          have k1 := cell_regrown c1
          have k2 := cell_regrown c2
          have cQ := low_call (w := z0) (fun W _ => unit_any a W ha.1 ha.2)
          clear c1 c2
          refine wp_region_low_tail 11 (by kernel_rfl) (by kernel_rfl) ?_
          simp only [List.take_succ_cons, List.take_zero, List.drop_succ_cons, List.drop_zero]
          repeat (go_big_quiet_step (exact cQ _ _))
          refine wpQuiet_nil ?_
          intro z1 hwz1
          have hbz1 := low_of hwz1
          clear hwz1 cQ k1 k2
          have Sz1 := Lib.hid (S0.out.below hbz1)
          clear hbz1
          go_wp2_with fail
          obtain ⟨_, c1, c2⟩ := Sz1.out.cells
          have k1 := cell_regrown c1
          have k2 := cell_regrown c2
          have cQ := low_call (w := z1) (fun W _ => unit_any a W ha.1 ha.2)
          clear c1 c2
          refine wp_region_low_tail 4 (by kernel_rfl) (by kernel_rfl) ?_
          simp only [List.take_succ_cons, List.take_zero, List.drop_succ_cons, List.drop_zero]
          repeat (go_big_quiet_step (exact cQ _ _))
          refine wpQuiet_nil ?_
          intro z3 hwz3
          have hbz3 := low_of hwz3
          clear hwz3 cQ k1 k2
          have Sz3 := Lib.hid (Sz1.out.below hbz3)
          clear hbz3
          go_wp2_with fail
          refine (unit_any b _ hb.1 hb.2).mono ?_
          rintro e z4 ⟨rfl, hb4⟩
          have Sz4 := Lib.hid (Sz3.out.below hb4)
          clear hb4
          obtain ⟨c0, c1, c2⟩ := Sz4.out.cells
          have i1 := Sz4.out.ice 1
          have Sz5 := Lib.hid (Sz4.out.store 1 (by decide) (.string (unitS b)) (x.1, unitS b, x.2.2) rfl)
          go_wp2_with fail
          generalize z4.setCell ⟨N, 1, none⟩ (.string (unitS b)) = z5 at Sz5 ⊢
          clear c0 c1 c2 i1
          obtain ⟨_, c1, c2⟩ := Sz5.out.cells
          have k1 := cell_regrown c1
          have k2 := cell_regrown c2
          have cQ := low_call (w := z5) (fun W _ => unit_any a W ha.1 ha.2)
          clear c1 c2
          refine wp_region_low_tail 4 (by kernel_rfl) (by kernel_rfl) ?_
          simp only [List.take_succ_cons, List.take_zero, List.drop_succ_cons, List.drop_zero]
          repeat (go_big_quiet_step (exact cQ _ _))
          refine wpQuiet_nil ?_
          intro z6 hwz6
          have hbz6 := low_of hwz6
          clear hwz6 cQ k1 k2
          have Sz6 := Lib.hid (Sz5.out.below hbz6)
          clear hbz6
          have e3 : ((unitS b).toList == (x.2.2).toList) = badB ((x.1, unitS b, x.2.2) : Rel) := K.beq_str _ _
          have HRS := Lib.hid (show (m.take (k + 1)).map (renS (unitS a) (unitS b)) = (m.take k).map (renS (unitS a) (unitS b)) ++ [((x.1, unitS b, x.2.2) : Rel)] by rw [map_step EX.out, HY1.out])
          have HDS := Lib.hid (show dropS (unitS a) (m.take (k + 1)) = dropS (unitS a) (m.take k) by rw [drop_step EX.out, HH.out]; simp)
          cases hbd : badB ((x.1, unitS b, x.2.2) : Rel)
          case true =>
            have HRB := Lib.hid (show renBad (unitS a) (unitS b) (m.take (k + 1)) = true by rw [renBad_step EX.out, HY1.out, hbd]; simp)
            rw [hbd] at e3
            clear hbd
            obtain ⟨c0, c1, c2⟩ := Sz6.out.cells
            have HR := Lib.hid (Sz6.out.appA (by simp; omega) z6.heap.size rfl)
            go_wp2_with (at_builtin; go_must (refine wpList_append_run rfl (.tmp 90) (.tmp 92) 24 rfl _ _ rfl rfl HR.out ?_))
            intro v9 z9 hs9
            have Sz9 := Lib.hid hs9
            clear hs9 HR
            go_wp2_with fail
            go_roundg (m.length - (k + 1))
            case measure => omega
            case rel => exact ⟨k + 1, 14, by omega, Nat.le_refl _, by go_num, rfl, Lib.hid (by rw [HRB.out]; rfl), Lib.hid (by rw [HRS.out, List.map_take]; exact Sz9.out.a), Lib.hid (by rw [HDS.out]; exact Sz9.out.b), Lib.hid Sz9.out.ab, Lib.hid Sz9.out.bel⟩
          case false =>
            have HRB := Lib.hid (show renBad (unitS a) (unitS b) (m.take (k + 1)) = renBad (unitS a) (unitS b) (m.take k) by rw [renBad_step EX.out, HY1.out, hbd]; simp)
            rw [hbd] at e3
            clear hbd
            obtain ⟨c0, c1, c2⟩ := Sz6.out.cells
            have HR := Lib.hid (Sz6.out.appA (by simp; omega) z6.heap.size rfl)
            go_wp2_with (at_builtin; go_must (refine wpList_append_run rfl (.tmp 90) (.tmp 92) 24 rfl _ _ rfl rfl HR.out ?_))
            intro v9 z9 hs9
            have Sz9 := Lib.hid hs9
            clear hs9 HR
            go_wp2_with fail
            go_roundg (m.length - (k + 1))
            case measure => omega
            case rel => exact ⟨k + 1, wn, by omega, Nat.le_refl _, by go_num, rfl, Lib.hid (by rw [HRB.out]; exact HWN.out), Lib.hid (by rw [HRS.out, List.map_take]; exact Sz9.out.a), Lib.hid (by rw [HDS.out]; exact Sz9.out.b), Lib.hid Sz9.out.ab, Lib.hid Sz9.out.bel⟩
      · by_cases h2 : x.2.2 = unitS a
        · -- the lower one
          have e1 : (x.2.1.toList == (unitS a).toList) = false := by rw [K.beq_str]; simp [h1]
          have e2 : (x.2.2.toList == (unitS a).toList) = true := by rw [K.beq_str]; simp [h2]
          have HH := Lib.hid (show hasB (unitS a) x = true by simp [hasB, h1, h2])
          have HY1 := Lib.hid (show renS (unitS a) (unitS b) x = ((x.1, x.2.1, unitS b) : Rel) by simp [renS, renT, h1, h2])
          clear h1 h2
          go_wp2_with fail
          have S0 := Lib.hid (St.new HA.out HB'.out AB.out HBR.out x)
          generalize wr.alloc (.cells #[.int .i64 x.1, .string x.2.1, .string x.2.2] 33) = z0 at S0 ⊢
          generalize wr.heap.size = N at S0 ⊢
          clear HA HB' AB HBR x0 x1 x2
          obtain ⟨_, c1, c2⟩ := S0.out.cells
          have k1 := cell_regrown c1
          have k2 := cell_regrown c2
          have cQ := low_call (w := z0) (fun W _ => unit_any a W ha.1 ha.2)
          clear c1 c2
          refine wp_region_low_tail 11 (by kernel_rfl) (by kernel_rfl) ?_
          simp only [List.take_succ_cons, List.take_zero, List.drop_succ_cons, List.drop_zero]
          repeat (go_big_quiet_step (exact cQ _ _))
          refine wpQuiet_nil ?_
          intro z1 hwz1
          have hbz1 := low_of hwz1
          clear hwz1 cQ k1 k2
          have Sz1 := Lib.hid (S0.out.below hbz1)
          clear hbz1
          go_wp2_with fail
          obtain ⟨_, c1, c2⟩ := Sz1.out.cells
          have k1 := cell_regrown c1
          have k2 := cell_regrown c2
          have cQ := low_call (w := z1) (fun W _ => unit_any a W ha.1 ha.2)
          clear c1 c2
          refine wp_region_low_tail 4 (by kernel_rfl) (by kernel_rfl) ?_
          simp only [List.take_succ_cons, List.take_zero, List.drop_succ_cons, List.drop_zero]
          repeat (go_big_quiet_step (exact cQ _ _))
          refine wpQuiet_nil ?_
          intro z3 hwz3
          have hbz3 := low_of hwz3
          clear hwz3 cQ k1 k2
          have Sz3 := Lib.hid (Sz1.out.below hbz3)
          clear hbz3
          go_wp2_with fail
          obtain ⟨_, c1, c2⟩ := Sz3.out.cells
          have k1 := cell_regrown c1
          have k2 := cell_regrown c2
          have cQ := low_call (w := z3) (fun W _ => unit_any a W ha.1 ha.2)
          clear c1 c2
          refine wp_region_low_tail 4 (by kernel_rfl) (by kernel_rfl) ?_
          simp only [List.take_succ_cons, List.take_zero, List.drop_succ_cons, List.drop_zero]
          repeat (go_big_quiet_step (exact cQ _ _))
          refine wpQuiet_nil ?_
          intro z6 hwz6
          have hbz6 := low_of hwz6
          clear hwz6 cQ k1 k2
          have Sz6 := Lib.hid (Sz3.out.below hbz6)
          clear hbz6
          go_wp2_with fail
          refine (unit_any b _ hb.1 hb.2).mono ?_
          rintro e z7 ⟨rfl, hb7⟩
          have Sz7 := Lib.hid (Sz6.out.below hb7)
          clear hb7
          obtain ⟨c0, c1, c2⟩ := Sz7.out.cells
          have i2 := Sz7.out.ice 2
          have Sz8 := Lib.hid (Sz7.out.store 2 (by decide) (.string (unitS b)) (x.1, x.2.1, unitS b) rfl)
          go_upto_region 18 with fail
          generalize z7.setCell ⟨N, 2, none⟩ (.string (unitS b)) = z8 at Sz8 ⊢
          clear c0 c1 c2 i2
          have e3 : ((x.2.1).toList == (unitS b).toList) = badB ((x.1, x.2.1, unitS b) : Rel) := K.beq_str _ _
          have HRS := Lib.hid (show (m.take (k + 1)).map (renS (unitS a) (unitS b)) = (m.take k).map (renS (unitS a) (unitS b)) ++ [((x.1, x.2.1, unitS b) : Rel)] by rw [map_step EX.out, HY1.out])
          have HDS := Lib.hid (show dropS (unitS a) (m.take (k + 1)) = dropS (unitS a) (m.take k) by rw [drop_step EX.out, HH.out]; simp)
          cases hbd : badB ((x.1, x.2.1, unitS b) : Rel)
          case true =>
            have HRB := Lib.hid (show renBad (unitS a) (unitS b) (m.take (k + 1)) = true by rw [renBad_step EX.out, HY1.out, hbd]; simp)
            rw [hbd] at e3
            clear hbd
            obtain ⟨c0, c1, c2⟩ := Sz8.out.cells
            have HR := Lib.hid (Sz8.out.appA (by simp; omega) z8.heap.size rfl)
            go_wp2_with (at_builtin; go_must (refine wpList_append_run rfl (.tmp 90) (.tmp 92) 24 rfl _ _ rfl rfl HR.out ?_))
            intro v9 z9 hs9
            have Sz9 := Lib.hid hs9
            clear hs9 HR
            go_wp2_with fail
            go_roundg (m.length - (k + 1))
            case measure => omega
            case rel => exact ⟨k + 1, 14, by omega, Nat.le_refl _, by go_num, rfl, Lib.hid (by rw [HRB.out]; rfl), Lib.hid (by rw [HRS.out, List.map_take]; exact Sz9.out.a), Lib.hid (by rw [HDS.out]; exact Sz9.out.b), Lib.hid Sz9.out.ab, Lib.hid Sz9.out.bel⟩
          case false =>
            have HRB := Lib.hid (show renBad (unitS a) (unitS b) (m.take (k + 1)) = renBad (unitS a) (unitS b) (m.take k) by rw [renBad_step EX.out, HY1.out, hbd]; simp)
            rw [hbd] at e3
            clear hbd
            obtain ⟨c0, c1, c2⟩ := Sz8.out.cells
            have HR := Lib.hid (Sz8.out.appA (by simp; omega) z8.heap.size rfl)
            go_wp2_with (at_builtin; go_must (refine wpList_append_run rfl (.tmp 90) (.tmp 92) 24 rfl _ _ rfl rfl HR.out ?_))
            intro v9 z9 hs9
            have Sz9 := Lib.hid hs9
            clear hs9 HR
            go_wp2_with fail
            go_roundg (m.length - (k + 1))
            case measure => omega
            case rel => exact ⟨k + 1, wn, by omega, Nat.le_refl _, by go_num, rfl, Lib.hid (by rw [HRB.out]; exact HWN.out), Lib.hid (by rw [HRS.out, List.map_take]; exact Sz9.out.a), Lib.hid (by rw [HDS.out]; exact Sz9.out.b), Lib.hid Sz9.out.ab, Lib.hid Sz9.out.bel⟩
        · -- none
          have e1 : (x.2.1.toList == (unitS a).toList) = false := by rw [K.beq_str]; simp [h1]
          have e2 : (x.2.2.toList == (unitS a).toList) = false := by rw [K.beq_str]; simp [h2]
          have HH := Lib.hid (show hasB (unitS a) x = false by simp [hasB, h1, h2])
          have HY1 := Lib.hid (show renS (unitS a) (unitS b) x = ((x.1, x.2.1, x.2.2) : Rel) by simp [renS, renT, h1, h2])
          clear h1 h2
          go_wp2_with fail
          have S0 := Lib.hid (St.new HA.out HB'.out AB.out HBR.out x)
          generalize wr.alloc (.cells #[.int .i64 x.1, .string x.2.1, .string x.2.2] 33) = z0 at S0 ⊢
          generalize wr.heap.size = N at S0 ⊢
          clear HA HB' AB HBR x0 x1 x2
          obtain ⟨_, c1, c2⟩ := S0.out.cells
          have k1 := cell_regrown c1
          have k2 := cell_regrown c2
          have cQ := low_call (w := z0) (fun W _ => unit_any a W ha.1 ha.2)
          clear c1 c2
          refine wp_region_low_tail 11 (by kernel_rfl) (by kernel_rfl) ?_
          simp only [List.take_succ_cons, List.take_zero, List.drop_succ_cons, List.drop_zero]
          repeat (go_big_quiet_step (exact cQ _ _))
          refine wpQuiet_nil ?_
          intro z1 hwz1
          have hbz1 := low_of hwz1
          clear hwz1 cQ k1 k2
          have Sz1 := Lib.hid (S0.out.below hbz1)
          clear hbz1
          obtain ⟨c0, c1, c2⟩ := Sz1.out.cells
          have HR := Lib.hid (Sz1.out.appB hlB z1.heap.size rfl)
          go_wp2_with (at_builtin; go_must (refine wpList_append_run rfl (.tmp 65) (.tmp 67) 24 rfl _ _ rfl rfl HR.out ?_))
          intro v2 z2 hs2
          have Sz2 := Lib.hid hs2
          clear hs2 HR c0 c1 c2
          go_wp2_with fail
          obtain ⟨_, c1, c2⟩ := Sz2.out.cells
          have k1 := cell_regrown c1
          have k2 := cell_regrown c2
          have cQ := low_call (w := z2) (fun W _ => unit_any a W ha.1 ha.2)
          clear c1 c2
          refine wp_region_low_tail 4 (by kernel_rfl) (by kernel_rfl) ?_
          simp only [List.take_succ_cons, List.take_zero, List.drop_succ_cons, List.drop_zero]
          repeat (go_big_quiet_step (exact cQ _ _))
          refine wpQuiet_nil ?_
          intro z3 hwz3
          have hbz3 := low_of hwz3
          clear hwz3 cQ k1 k2
          have Sz3 := Lib.hid (Sz2.out.below hbz3)
          clear hbz3
          go_wp2_with fail
          obtain ⟨_, c1, c2⟩ := Sz3.out.cells
          have k1 := cell_regrown c1
          have k2 := cell_regrown c2
          have cQ := low_call (w := z3) (fun W _ => unit_any a W ha.1 ha.2)
          clear c1 c2
          refine wp_region_low_tail 4 (by kernel_rfl) (by kernel_rfl) ?_
          simp only [List.take_succ_cons, List.take_zero, List.drop_succ_cons, List.drop_zero]
          repeat (go_big_quiet_step (exact cQ _ _))
          refine wpQuiet_nil ?_
          intro z6 hwz6
          have hbz6 := low_of hwz6
          clear hwz6 cQ k1 k2
          have Sz6 := Lib.hid (Sz3.out.below hbz6)
          clear hbz6
          have e3 : ((x.2.1).toList == (x.2.2).toList) = badB ((x.1, x.2.1, x.2.2) : Rel) := K.beq_str _ _
          have HRS := Lib.hid (show (m.take (k + 1)).map (renS (unitS a) (unitS b)) = (m.take k).map (renS (unitS a) (unitS b)) ++ [((x.1, x.2.1, x.2.2) : Rel)] by rw [map_step EX.out, HY1.out])
          have HDS := Lib.hid (show dropS (unitS a) (m.take (k + 1)) = dropS (unitS a) (m.take k) ++ [x] by rw [drop_step EX.out, HH.out]; simp)
          cases hbd : badB ((x.1, x.2.1, x.2.2) : Rel)
          case true =>
            have HRB := Lib.hid (show renBad (unitS a) (unitS b) (m.take (k + 1)) = true by rw [renBad_step EX.out, HY1.out, hbd]; simp)
            rw [hbd] at e3
            clear hbd
            obtain ⟨c0, c1, c2⟩ := Sz6.out.cells
            have HR := Lib.hid (Sz6.out.appA (by simp; omega) z6.heap.size rfl)
            go_wp2_with (at_builtin; go_must (refine wpList_append_run rfl (.tmp 90) (.tmp 92) 24 rfl _ _ rfl rfl HR.out ?_))
            intro v9 z9 hs9
            have Sz9 := Lib.hid hs9
            clear hs9 HR
            go_wp2_with fail
            go_roundg (m.length - (k + 1))
            case measure => omega
            case rel => exact ⟨k + 1, 14, by omega, Nat.le_refl _, by go_num, rfl, Lib.hid (by rw [HRB.out]; rfl), Lib.hid (by rw [HRS.out, List.map_take]; exact Sz9.out.a), Lib.hid (by rw [HDS.out]; exact Sz9.out.b), Lib.hid Sz9.out.ab, Lib.hid Sz9.out.bel⟩
          case false =>
            have HRB := Lib.hid (show renBad (unitS a) (unitS b) (m.take (k + 1)) = renBad (unitS a) (unitS b) (m.take k) by rw [renBad_step EX.out, HY1.out, hbd]; simp)
            rw [hbd] at e3
            clear hbd
            obtain ⟨c0, c1, c2⟩ := Sz6.out.cells
            have HR := Lib.hid (Sz6.out.appA (by simp; omega) z6.heap.size rfl)
            go_wp2_with (at_builtin; go_must (refine wpList_append_run rfl (.tmp 90) (.tmp 92) 24 rfl _ _ rfl rfl HR.out ?_))
            intro v9 z9 hs9
            have Sz9 := Lib.hid hs9
            clear hs9 HR
            go_wp2_with fail
            go_roundg (m.length - (k + 1))
            case measure => omega
            case rel => exact ⟨k + 1, wn, by omega, Nat.le_refl _, by go_num, rfl, Lib.hid (by rw [HRB.out]; exact HWN.out), Lib.hid (by rw [HRS.out, List.map_take]; exact Sz9.out.a), Lib.hid (by rw [HDS.out]; exact Sz9.out.b), Lib.hid Sz9.out.ab, Lib.hid Sz9.out.bel⟩
    · have hge : ¬ (k : Int) < (m.length : Int) := by omega
      have hkl : k = m.length := by omega
      rw [hkl, List.take_length] at HA HB' HWN
      have hl0 : ((m.map (renS (unitS a) (unitS b)))).length ≤ 12 := by simp; omega
      obtain ⟨A1, d1, rfl, hrd1, _⟩ := HA.out.view (by omega)
      have hl1 : (dropS (unitS a) m).length ≤ 12 := Nat.le_trans (List.length_filter_le _ _) hml
      obtain ⟨A2, d2, rfl, hrd2, _⟩ := HB'.out.view (by omega)
      have HA1 := Lib.hid hrd1
      have HA2 := Lib.hid hrd2
      have HZ2 := Lib.hid (HZ.out.below HBR.out)
      have HY2 := Lib.hid (HY.out.below HBR.out)
      have HBF := Lib.hid (below_step HB7.out HB7.out.size HBR.out)
      have hnd := HND.out
      subst hnd
      clear hrd1 hrd2 HA HB' AB HBR HZ HY hkl HND HV HM1 HM2 HMS HB7
      generalize dropS (unitS a) m = DL at *
      cases hbd : renBad (unitS a) (unitS b) m
      case true =>
        have hwn : wn = 14 := by rw [HWN.out, hbd]; rfl
        have hre : re = 14 := by rw [HRE.out, hbd]; rfl
        have hrl : RL = [] := by rw [HRL.out, hre]; rfl
        clear HWN HRE HRL hbd HA1 HY2
        subst hwn hre hrl
        generalize (m.map (renS (unitS a) (unitS b))).length = LM at *
        go_wp2_with fail
        refine (same_any B7 A2 c7 d2 DL DL _ HZ2.out HA2.out).mono ?_
        rintro e z1 ⟨rfl, n1, rfl⟩
        rw [decide_eq_true rfl]
        skip
        go_wp2_with fail
        go_ret
        exact ⟨rfl, below_drewN HBF.out _⟩
      case false =>
        have hwn : wn = 0 := by rw [HWN.out, hbd]; rfl
        have hre : re = 0 := by rw [HRE.out, hbd]; rfl
        have hrl : RL = m.map (renS (unitS a) (unitS b)) := by rw [HRL.out, hre]; rfl
        clear HWN HRE HRL hbd
        subst hwn hre hrl
        generalize m.map (renS (unitS a) (unitS b)) = ML at *
        go_wp2_with fail
        refine (same_any B7 A2 c7 d2 DL DL _ HZ2.out HA2.out).mono ?_
        rintro e z1 ⟨rfl, n1, rfl⟩
        rw [decide_eq_true rfl]
        skip
        go_wp2_with fail
        refine (same_any B5 A1 c5 d1 ML ML _ (HY2.out.drew _) (HA1.out.drew _)).mono ?_
        rintro e z2 ⟨rfl, n2, rfl⟩
        rw [decide_eq_true rfl]
        skip
        go_wp2_with fail
        go_ret
        exact ⟨rfl, below_drewN HBF.out _⟩
end Go.Proofs.YtpnobpnknlpjnaaDoor
