/- The statement about pairs, walked. -/
import Derived.Test.YtpnobpnknlpjnaaDoorPairsLaw
import Derived.Test.YtpnobpnknlpjnaaDoorLawNormals
import Derived.Test.YtpnobpnknlpjnaaDoorQTail
import Derived.Deep.DeepCutAuto
import Derived.Deep.LoopGhost
import Derived.ChangeKeysEq
set_option linter.unusedVariables false
set_option linter.unusedSimpArgs false
namespace Go.Proofs.YtpnobpnknlpjnaaDoor
open Go Go.RowKit Go.Lib

theorem eq2 (x y : Int × Int) (w : World) : (Op.equalIn 10000 51 (.agg #[.int .i64 x.1, .int .i64 x.2]) (.agg #[.int .i64 y.1, .int .i64 y.2])).run Tryd.prog w = .ok (decide (x = y)) w := by
  have u3 := Tryd.underlying3
  have a3 := Tryd.isAgg3
  have z3 := Tryd.sizeOf3
  obtain ⟨a, b⟩ := x
  obtain ⟨c, d⟩ := y
  obtain ⟨i0, hi, _⟩ := Option.map_eq_some_iff.1 infoI
  have hcl : Tryd.prog.cellsOf 3 = 1 := by kernel_rfl
  rw [show (10000 : Nat) = 9999 + 1 from rfl, run_equalIn_array w 9999 #[.int .i64 a, .int .i64 b] #[.int .i64 c, .int .i64 d] Tryd.underlying51 hi]
  simp only [List.range, List.range.loop, Op.eqItems, hcl]
  go_simp
  by_cases h1 : a = c <;> by_cases h2 : b = d <;> simp [h1, h2]
theorem neq2 (x y : Int × Int) (w : World) : (binOp .neq 51 (.agg #[.int .i64 x.1, .int .i64 x.2]) (.agg #[.int .i64 y.1, .int .i64 y.2])).run Tryd.prog w = .ok (.bool (!decide (x = y))) w := by
  rw [run_neq_struct, eq2, Result.andThen_ok]


set_option maxRecDepth 10000 in
set_option maxHeartbeats 8000000 in
theorem law_pairs (A : Option Addr) (len cap : Nat) (a b : Int) (w : World) (hm : Mx w) (hl : len ≤ 9223372036854775807) (h : len ≤ 12 → ∃ xs : List (Int × Int × Int), xs.length = len ∧ Rd enc3 w A xs ∧ ∀ d ∈ xs, (0 ≤ d.1 ∧ d.1 ≤ 255) ∧ (0 ≤ d.2.1 ∧ d.2.1 ≤ 255) ∧ (0 ≤ d.2.2 ∧ d.2.2 ≤ 255)) (ha : 0 ≤ a ∧ a ≤ 255) (hb : 0 ≤ b ∧ b ≤ 255) :
    Calls Tryd.prog 6 #[.slice A len cap, .int .u8 a, .int .u8 b] w fun e w' => e = .returned (.bool true) ∧ Below w.heap.size w w' := by
  have HM := Lib.hid hm
  clear hm
  rcases Nat.lt_or_ge 12 len with hlen | hlen
  · clear h
    have h12 : (12 : Int) < (len : Int) := by omega
    go_enter Tryd.func6, Tryd.ntmps6
    go_wp2_with fail
    refine (known_any _ HM.out).mono ?_
    rintro e w1 ⟨rfl, hb1⟩
    have HB := Lib.hid hb1
    clear hb1
    go_wp2_with fail
    refine (known_any _ (HM.out.below HB.out HM.out.pos)).mono ?_
    rintro e w2 ⟨rfl, hb1⟩
    have HB2 := Lib.hid (below_step HB.out HB.out.size hb1)
    clear hb1
    go_wp2_with fail
    go_ret
    exact ⟨rfl, HB2.out⟩
  obtain ⟨xs, rfl, hx, hr⟩ := h hlen
  have h12 : ¬ (12 : Int) < (xs.length : Int) := by omega
  have HX := Lib.hid hx
  have HR := Lib.hid hr
  have hna := name_unit a (Int.emod_nonneg _ (by omega))
  have hnb := name_unit b (Int.emod_nonneg _ (by omega))
  have hsa : (unitS a).size ≤ 9223372036854775807 := by rw [size_unit]; omega
  have hsb : (unitS b).size ≤ 9223372036854775807 := by rw [size_unit]; omega
  have hml := makeS_len xs
  have hms := makeS_size xs
  have hma := makeS_all xs
  have hmn : checkNamesS (makeS xs) [unitS a, unitS b] = 0 := by unfold checkNamesS allNames; simp [hma, hna, hnb]
  have HMS := Lib.hid hms
  have HMA := Lib.hid hma
  have HMN := Lib.hid hmn
  have HMK := Lib.hid (show makeS xs = makeS xs from rfl)
  clear hx hr h hna hnb hms hma hmn
  go_enter Tryd.func6, Tryd.ntmps6
  go_wp2_with fail
  refine (known_any _ HM.out).mono ?_
  rintro e w1 ⟨rfl, hb1⟩
  have HB := Lib.hid hb1
  clear hb1
  go_wp2_with fail
  refine (make_any A cap xs _ (HX.out.below HB.out) HR.out).mono ?_
  rintro e w2 ⟨v, rfl, ho, hb1⟩
  generalize makeS xs = m at ho HMS HMA HMN HMK hml
  obtain ⟨B, c, rfl, hrd, hBo⟩ := ho.view (by omega)
  have HB2 := Lib.hid (below_step HB.out HB.out.size hb1)
  have HV := Lib.hid hrd
  clear ho hb1 hrd HX HR HMK h12 hlen
  go_wp2_with fail
  refine (unit_any a _ ha.1 ha.2).mono ?_
  rintro e w3 ⟨rfl, hb1⟩
  have HV3 := Lib.hid (HV.out.below hb1)
  have HB3 := Lib.hid (below_step HB2.out HB2.out.size hb1)
  clear hb1 HV
  go_wp2_with fail
  refine (unit_any b _ hb.1 hb.2).mono ?_
  rintro e w4 ⟨rfl, hb1⟩
  have HV4 := Lib.hid (HV3.out.below hb1)
  have HB4 := Lib.hid (below_step HB3.out HB3.out.size hb1)
  clear hb1 HV3
  go_wp2_with fail
  refine (between_lib B c m (unitS a) (unitS b) _ HV4.out HMS.out hsa hsb).mono ?_
  rintro e w5 ⟨v5, rfl, ho, hb1⟩
  rw [if_pos HMN.out] at ho
  rw [HMN.out]
  have hbl : (betweenS m (unitS a) (unitS b)).length ≤ 12 := Nat.le_trans (placesTo_len _ _ _) hml
  obtain ⟨B5, c5, rfl, hrd, hB5⟩ := ho.view (by omega)
  have HY5 := Lib.hid hrd
  have HV5 := Lib.hid (HV4.out.below hb1)
  have HB5 := Lib.hid (below_step HB4.out HB4.out.size hb1)
  clear ho hb1 hrd HV4
  go_wp2_with fail
  refine (opposed_lib B c m _ HV5.out HMS.out).mono ?_
  rintro e w6 ⟨v6, rfl, ho, hb1⟩
  rw [if_pos HMA.out] at ho
  rw [HMA.out]
  have hol : (opposedS m).length ≤ 12 * 12 := Nat.le_trans (oppTo_len _ _) (Nat.mul_le_mul hml hml)
  obtain ⟨B6, c6, rfl, hrd, hB6⟩ := ho.view (by omega)
  have HZ := Lib.hid hrd
  have HY := Lib.hid (HY5.out.below hb1)
  have HV := Lib.hid (HV5.out.below hb1)
  have HB6 := Lib.hid (below_step HB5.out HB5.out.size hb1)
  clear ho hb1 hrd HV5 HY5 HB HB2 HB3 HB4 HB5
  obtain ⟨f, hf⟩ : ∃ f, f = betwS (unitS a) (unitS b) := ⟨_, rfl⟩
  have hyl : (betweenS m (unitS a) (unitS b)) = placesTo f m m.length := by rw [hf]; rfl
  rw [hyl] at HY hbl ⊢
  have HF := Lib.hid hf
  clear hf hyl
  generalize hN1 : (placesTo f m m.length).length = N1 at hbl ⊢
  generalize hN2 : (opposedS m).length = N2 at hol ⊢
  have HN1 := Lib.hid hN1
  have HN2 := Lib.hid hN2
  clear hN1 hN2
  go_wp2_with fail
  go_loopg [12, 13, 14] m.length (fun gg s12 s13 s14 wr => ∃ k n1 n2 : Nat, k ≤ m.length ∧ m.length - k ≤ gg ∧ s14 = .int .i64 k ∧ s12 = .int .i64 n1 ∧ s13 = .int .i64 n2 ∧ Hid (n1 = (placesTo f m k).length) ∧ Hid (n2 = (oppTo m k).length) ∧ Hid (Below w6.heap.size w6 wr))
  case atStart => exact ⟨0, 0, 0, Nat.zero_le _, by omega, rfl, rfl, rfl, Lib.hid rfl, Lib.hid rfl, Lib.hid (Below.refl _ _)⟩
  case round =>
    obtain ⟨k, n1, n2, hk, hg, rfl, rfl, rfl, E1, E2, HBR⟩ := hrel
    by_cases hlt : k < m.length
    · have hltz : (k : Int) < (m.length : Int) := by omega
      obtain ⟨x, ex⟩ := get_of_lt hlt
      obtain ⟨b0, o0, rfl, x0, x1, x2⟩ := (HV.out.below HBR.out).rel ex
      have EX := Lib.hid ex
      have e1 : (x.2.1.toList == (unitS a).toList) = decide (x.2.1 = unitS a) := K.beq_str _ _
      have e2 : (x.2.2.toList == (unitS b).toList) = decide (x.2.2 = unitS b) := K.beq_str _ _
      have e3 : (x.2.1.toList == (unitS b).toList) = decide (x.2.1 = unitS b) := K.beq_str _ _
      have e4 : (x.2.2.toList == (unitS a).toList) = decide (x.2.2 = unitS a) := K.beq_str _ _
      have hf : f x = ((decide (x.2.1 = unitS a) && decide (x.2.2 = unitS b)) || (decide (x.2.1 = unitS b) && decide (x.2.2 = unitS a))) := by rw [HF.out]; rfl
      clear ex
      generalize decide (x.2.1 = unitS a) = p1 at e1 hf
      generalize decide (x.2.2 = unitS b) = p2 at e2 hf
      generalize decide (x.2.1 = unitS b) = p3 at e3 hf
      generalize decide (x.2.2 = unitS a) = p4 at e4 hf
      have hwp := hf
      go_upto_region 12 with fail
      go_cut [89] from 46 to 167 (fun s89 wx => s89 = .bool ((p1 && p2) || (p3 && p4)) ∧ Below w6.heap.size w6 wx)
      case first =>
        have k1 := cell_regrown x1
        have k2 := cell_regrown x2
        have cQ := low_call (w := wr) (fun W _ => unit_any a W ha.1 ha.2)
        have cR := low_call (w := wr) (fun W _ => unit_any b W hb.1 hb.2)
        clear x0 x1 x2
        refine wp_region_low_tail 37 (by kernel_rfl) (by kernel_rfl) ?_
        simp only [List.take_succ_cons, List.take_zero, List.drop_succ_cons, List.drop_zero]
        repeat (go_big_quiet_step (first | exact cQ _ _ | exact cR _ _))
        cases p1
        case false =>
          repeat (go_big_quiet_step (first | exact cQ _ _ | exact cR _ _))
          cases p3
          case false =>
            repeat (go_big_quiet_step (first | exact cQ _ _ | exact cR _ _))
            refine wpQuiet_nil ?_
            intro w2 hw2
            have hb2 := low_of hw2
            clear hw2 cQ cR k1 k2
            go_wp2_with fail
            go_meet
            exact ⟨by simp, HBR.out.trans (hb2.mono HBR.out.size)⟩
          case true =>
            repeat (go_big_quiet_step (first | exact cQ _ _ | exact cR _ _))
            cases p4
            case false =>
              repeat (go_big_quiet_step (first | exact cQ _ _ | exact cR _ _))
              refine wpQuiet_nil ?_
              intro w2 hw2
              have hb2 := low_of hw2
              clear hw2 cQ cR k1 k2
              go_wp2_with fail
              go_meet
              exact ⟨by simp, HBR.out.trans (hb2.mono HBR.out.size)⟩
            case true =>
              repeat (go_big_quiet_step (first | exact cQ _ _ | exact cR _ _))
              refine wpQuiet_nil ?_
              intro w2 hw2
              have hb2 := low_of hw2
              clear hw2 cQ cR k1 k2
              go_wp2_with fail
              go_meet
              exact ⟨by simp, HBR.out.trans (hb2.mono HBR.out.size)⟩
        case true =>
          repeat (go_big_quiet_step (first | exact cQ _ _ | exact cR _ _))
          cases p2
          case true =>
            repeat (go_big_quiet_step (first | exact cQ _ _ | exact cR _ _))
            refine wpQuiet_nil ?_
            intro w2 hw2
            have hb2 := low_of hw2
            clear hw2 cQ cR k1 k2
            go_wp2_with fail
            go_meet
            exact ⟨by simp, HBR.out.trans (hb2.mono HBR.out.size)⟩
          case false =>
            repeat (go_big_quiet_step (first | exact cQ _ _ | exact cR _ _))
            cases p3
            case false =>
              repeat (go_big_quiet_step (first | exact cQ _ _ | exact cR _ _))
              refine wpQuiet_nil ?_
              intro w2 hw2
              have hb2 := low_of hw2
              clear hw2 cQ cR k1 k2
              go_wp2_with fail
              go_meet
              exact ⟨by simp, HBR.out.trans (hb2.mono HBR.out.size)⟩
            case true =>
              repeat (go_big_quiet_step (first | exact cQ _ _ | exact cR _ _))
              cases p4
              case false =>
                repeat (go_big_quiet_step (first | exact cQ _ _ | exact cR _ _))
                refine wpQuiet_nil ?_
                intro w2 hw2
                have hb2 := low_of hw2
                clear hw2 cQ cR k1 k2
                go_wp2_with fail
                go_meet
                exact ⟨by simp, HBR.out.trans (hb2.mono HBR.out.size)⟩
              case true =>
                repeat (go_big_quiet_step (first | exact cQ _ _ | exact cR _ _))
                refine wpQuiet_nil ?_
                intro w2 hw2
                have hb2 := low_of hw2
                clear hw2 cQ cR k1 k2
                go_wp2_with fail
                go_meet
                exact ⟨by simp, HBR.out.trans (hb2.mono HBR.out.size)⟩
      case rest =>
        obtain ⟨rfl, hbc⟩ := hcut
        have HBC := Lib.hid hbc
        rw [← hf]
        clear hbc e1 e2 e3 e4 hf x0 x1 x2 hwp HBR
        generalize hfx : f x = fx
        have HFX := Lib.hid hfx
        clear hfx
        go_upto_if 89 with fail
        go_cut [12] from 46 to 167 (fun s12 wx => (∃ n : Nat, s12 = .int .i64 n ∧ Hid (n = (placesTo f m (k + 1)).length)) ∧ wx = wc)
        case first =>
          cases fx
          case true =>
            have hat := placesTo_at EX.out HFX.out
            rw [← E1.out] at hat
            have hlt1 : n1 < N1 := by rw [← HN1.out]; exact lt_of_get hat
            obtain ⟨b5, o5, rfl, y0⟩ := (HY.out.below HBC.out).num hat
            clear hat
            go_wp2_with fail
            go_meet
            exact ⟨⟨n1 + 1, by go_num, Lib.hid (by rw [placesTo_step EX.out, HFX.out, E1.out]; simp)⟩, rfl⟩
          case false =>
            go_wp2_with fail
            go_meet
            exact ⟨⟨n1, rfl, Lib.hid (by rw [placesTo_step EX.out, HFX.out, E1.out]; simp)⟩, rfl⟩
        case rest =>
          obtain ⟨⟨n1', rfl, E1'⟩, rfl⟩ := hcut
          clear HFX E1
          go_wp2_with fail
          go_loopg [13, 15] m.length (fun gi s13 s15 wi => ∃ j n2 : Nat, k + 1 ≤ j ∧ j ≤ m.length ∧ m.length - j ≤ gi ∧ s15 = .int .i64 j ∧ s13 = .int .i64 n2 ∧ Hid (n2 = (oppTo m k ++ oppRow m k j).length) ∧ Hid (Below w6.heap.size w6 wi))
          case atStart => exact ⟨k + 1, n2, Nat.le_refl _, hlt, by omega, by go_num, rfl, Lib.hid (by rw [oppRow_start m k (k + 1) (Nat.le_refl _), List.append_nil]; exact E2.out), HBC⟩
          case round =>
            obtain ⟨j, nj, hkj, hj, hgi, rfl, rfl, EJ, HBI⟩ := hrel
            by_cases hltj : j < m.length
            · have hltjz : (j : Int) < (m.length : Int) := by omega
              obtain ⟨y, ey⟩ := get_of_lt hltj
              obtain ⟨_, _, eb, x0, x1, x2⟩ := (HV.out.below HBI.out).rel EX.out
              cases eb
              obtain ⟨_, _, eb, y0, y1, y2⟩ := (HV.out.below HBI.out).rel ey
              cases eb
              have EY := Lib.hid ey
              have e1 : (x.1 != 4) = decide (x.1 ≠ 4) := by by_cases h : x.1 = 4 <;> simp [h]
              have e2 : (y.1 != 4) = decide (y.1 ≠ 4) := by by_cases h : y.1 = 4 <;> simp [h]
              have e3 : (x.2.1.toList == y.2.2.toList) = decide (x.2.1 = y.2.2) := K.beq_str _ _
              have e4 : (x.2.2.toList == y.2.1.toList) = decide (x.2.2 = y.2.1) := K.beq_str _ _
              have ho : oppB x y = (decide (x.1 ≠ 4) && decide (y.1 ≠ 4) && decide (x.2.1 = y.2.2) && decide (x.2.2 = y.2.1)) := rfl
              clear ey
              generalize decide (x.1 ≠ 4) = p1 at e1 ho
              generalize decide (y.1 ≠ 4) = p2 at e2 ho
              generalize decide (x.2.1 = y.2.2) = p3 at e3 ho
              generalize decide (x.2.2 = y.2.1) = p4 at e4 ho
              go_upto_region 19 with fail
              go_cut [151] from 106 to 167 (fun s wx => s = .bool (p1 && p2 && p3 && p4) ∧ ∃ n, wx = wr.drewN n)
              case first =>
                clear ho
                refine wp_region_quiet_lit (by kernel_rfl) (by kernel_rfl) ?_
                repeat (go_big_quiet_step (fail))
                cases p1
                case false =>
                  repeat (go_big_quiet_step (fail))
                  refine wpQuiet_nil ?_
                  intro _ hw'
                  obtain ⟨nq, hw''⟩ := hw'
                  subst hw''
                  go_wp2_with fail
                  go_meet
                  exact ⟨by simp, _, rfl⟩
                case true =>
                  repeat (go_big_quiet_step (fail))
                  cases p2
                  case false =>
                    repeat (go_big_quiet_step (fail))
                    refine wpQuiet_nil ?_
                    intro _ hw'
                    obtain ⟨nq, hw''⟩ := hw'
                    subst hw''
                    go_wp2_with fail
                    go_meet
                    exact ⟨by simp, _, rfl⟩
                  case true =>
                    repeat (go_big_quiet_step (fail))
                    cases p3
                    case false =>
                      repeat (go_big_quiet_step (fail))
                      refine wpQuiet_nil ?_
                      intro _ hw'
                      obtain ⟨nq, hw''⟩ := hw'
                      subst hw''
                      go_wp2_with fail
                      go_meet
                      exact ⟨by simp, _, rfl⟩
                    case true =>
                      repeat (go_big_quiet_step (fail))
                      refine wpQuiet_nil ?_
                      intro _ hw'
                      obtain ⟨nq, hw''⟩ := hw'
                      subst hw''
                      go_wp2_with fail
                      go_meet
                      exact ⟨by simp, _, rfl⟩
              case rest =>
                obtain ⟨rfl, nd, rfl⟩ := hcut
                rw [← ho]
                clear e1 e2 e3 e4 ho x0 x1 x2 y0 y1 y2
                cases hfy : oppB x y
                case true =>
                  have hat := opp_at (by omega) EX.out EY.out hfy
                  rw [← EJ.out] at hat
                  have hlt2 : nj < N2 := by rw [← HN2.out]; exact lt_of_get hat
                  obtain ⟨b7, o7, rfl, z0, z1⟩ := (HZ.out.below (below_drewN HBI.out nd)).two hat
                  have hq : ∀ w, (binOp .neq 51 (.agg #[.int .i64 (k : Int), .int .i64 (j : Int)]) (.agg #[.int .i64 (k : Int), .int .i64 (j : Int)])).run Tryd.prog w = .ok (.bool false) w := fun w => by rw [neq2 ((k : Int), (j : Int)) ((k : Int), (j : Int)), decide_eq_true rfl]; rfl
                  have EJ2 := Lib.hid (show nj + 1 = (oppTo m k ++ oppRow m k (j + 1)).length by rw [oppRow_step (by omega) EX.out EY.out, hfy, EJ.out]; simp; omega)
                  have HB2 := Lib.hid (below_drewN HBI.out nd)
                  clear hat hfy EJ HBI
                  generalize wr.drewN nd = W at *
                  go_wp2_with fail
                  try go_quiet (fail)
                  go_wp2_with fail
                  go_roundg (m.length - (j + 1))
                  case measure => omega
                  case rel => exact ⟨j + 1, nj + 1, by omega, by omega, Nat.le_refl _, by go_num, by go_num, EJ2, HB2⟩
                case false =>
                  have EJ2 := Lib.hid (show nj = (oppTo m k ++ oppRow m k (j + 1)).length by rw [oppRow_step (by omega) EX.out EY.out, hfy, EJ.out]; simp)
                  have HB2 := Lib.hid (below_drewN HBI.out nd)
                  clear hfy EJ HBI
                  generalize wr.drewN nd = W at *
                  go_wp2_with fail
                  go_roundg (m.length - (j + 1))
                  case measure => omega
                  case rel => exact ⟨j + 1, nj, by omega, by omega, Nat.le_refl _, by go_num, rfl, EJ2, HB2⟩
            · have hge : ¬ (j : Int) < (m.length : Int) := by omega
              have E2' := Lib.hid (show nj = (oppTo m (k + 1)).length by rw [oppTo, ← show j = m.length by omega]; exact EJ.out)
              clear EJ
              go_wp2_with fail
              go_roundg (m.length - (k + 1))
              case measure => omega
              case rel => exact ⟨k + 1, n1', nj, by omega, Nat.le_refl _, by go_num, rfl, rfl, E1', E2', HBI⟩
    · have hge : ¬ (k : Int) < (m.length : Int) := by omega
      have hkl : k = m.length := by omega
      have hn1 : n1 = N1 := by rw [E1.out, hkl]; exact HN1.out
      have hn2 : n2 = N2 := by rw [E2.out, hkl]; exact HN2.out
      clear E1 E2 HN1 HN2 hkl
      subst hn1 hn2
      go_wp2_with fail
      go_ret
      exact ⟨rfl, below_step HB6.out HB6.out.size HBR.out⟩
end Go.Proofs.YtpnobpnknlpjnaaDoor
