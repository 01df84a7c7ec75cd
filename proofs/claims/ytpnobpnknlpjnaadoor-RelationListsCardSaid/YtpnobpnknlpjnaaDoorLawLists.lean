/- The statement about the lists of names and arcs, walked. -/
import Derived.Test.YtpnobpnknlpjnaaDoorListsLaw
import Derived.Test.YtpnobpnknlpjnaaDoorKnown
import Derived.Test.YtpnobpnknlpjnaaDoorQTail
import Derived.Deep.LoopGhost
import Derived.Deep.DeepCutAuto
set_option linter.unusedVariables false
set_option linter.unusedSimpArgs false
namespace Go.Proofs.YtpnobpnknlpjnaaDoor
open Go Go.RowKit

theorem used_step {m : List Rel} {i : Nat} {x : Rel} {a : Nat} (h : m[i]? = some x) : usedB (m.take (i + 1)) a = (usedB (m.take i) a || (decide (x.2.1 = unitS a) || decide (x.2.2 = unitS a))) := by
  rw [List.take_add_one, h]; simp [usedB]
theorem there_step {m : List Rel} {i : Nat} {x : Rel} {a b : Nat} (h : m[i]? = some x) : thereB (m.take (i + 1)) a b = (thereB (m.take i) a b || (decide (x.1 ≠ 4) && decide (x.2.2 = unitS a) && decide (x.2.1 = unitS b))) := by
  rw [List.take_add_one, h]; simp [thereB]

set_option maxRecDepth 10000 in
set_option maxHeartbeats 8000000 in
theorem law_lists (A : Option Addr) (len cap : Nat) (w : World) (hm : Mx w) (hl : len ≤ 9223372036854775807) (h : len ≤ 12 → ∃ xs : List (Int × Int × Int), xs.length = len ∧ Rd enc3 w A xs ∧ ∀ d ∈ xs, (0 ≤ d.1 ∧ d.1 ≤ 255) ∧ (0 ≤ d.2.1 ∧ d.2.1 ≤ 255) ∧ (0 ≤ d.2.2 ∧ d.2.2 ≤ 255)) :
    Calls Tryd.prog 9 #[.slice A len cap] w fun e w' => e = .returned (.bool true) ∧ Below w.heap.size w w' := by
  have HM := Lib.hid hm
  clear hm
  rcases Nat.lt_or_ge 12 len with hlen | hlen
  · clear h
    have h12 : (12 : Int) < (len : Int) := by omega
    go_enter Tryd.func9, Tryd.ntmps9
    go_wp2_with fail
    refine (known_any _ HM.out).mono ?_
    rintro e w1 ⟨rfl, hb1⟩
    have HB := Lib.hid hb1
    clear hb1
    go_wp2_with fail
    refine (known_any _ (HM.out.below HB.out HM.out.pos)).mono ?_
    rintro e w2 ⟨rfl, hb1⟩
    have HB2 := Lib.hid (below_step HB.out HB.out.size hb1)
    clear hb1
    go_wp2_with fail
    go_ret
    exact ⟨rfl, HB2.out⟩
  obtain ⟨xs, rfl, hx, hr⟩ := h hlen
  have h12 : ¬ (12 : Int) < (xs.length : Int) := by omega
  have HX := Lib.hid hx
  have HR := Lib.hid hr
  have hml := makeS_len xs
  have HMS := Lib.hid (makeS_size xs)
  have HMA := Lib.hid (makeS_all xs)
  have HU8 := Lib.hid (units_eight (make_units xs))
  have HA8 := Lib.hid (arcs_eight (make_units xs))
  have HMK := Lib.hid (show makeS xs = makeS xs from rfl)
  clear hx hr h
  go_enter Tryd.func9, Tryd.ntmps9
  go_wp2_with fail
  refine (known_any _ HM.out).mono ?_
  rintro e w1 ⟨rfl, hb1⟩
  have HB := Lib.hid hb1
  clear hb1
  go_wp2_with fail
  refine (make_any A cap xs _ (HX.out.below HB.out) HR.out).mono ?_
  rintro e w2 ⟨v, rfl, ho, hb1⟩
  generalize makeS xs = m at *
  obtain ⟨B, c, rfl, hrd, hBo⟩ := ho.view (by omega)
  have HBX := Lib.hid (below_step HB.out HB.out.size hb1)
  have HV := Lib.hid hrd
  clear ho hb1 hrd HX HR HMK h12 hlen HB
  go_wp2_with fail
  refine (units_lib B c m _ HV.out HMS.out).mono ?_
  rintro e w3 ⟨v, rfl, ho, hb1⟩
  rw [if_pos HMA.out, HU8.out] at ho
  rw [HMA.out]
  have hul : (unitsTo m 8).length ≤ 8 := unitsTo_len _ _
  obtain ⟨B3, c3, rfl, hrd, hA3⟩ := ho.view (by omega)
  have HL3 := Lib.hid hrd
  have HV := Lib.hid (HV.out.below hb1)
  have HBX := Lib.hid (below_step HBX.out HBX.out.size hb1)
  clear ho hb1 hrd
  go_wp2_with fail
  refine (arcs_lib B c m _ HV.out HMS.out).mono ?_
  rintro e w4 ⟨v, rfl, ho, hb1⟩
  rw [if_pos HMA.out, HA8.out] at ho
  rw [HMA.out]
  have hal : (arcsTo m 8).length ≤ 64 := arcsTo_len _ _
  obtain ⟨B4, c4, rfl, hrd, hA4⟩ := ho.view (by omega)
  have HL4 := Lib.hid hrd
  have HL3 := Lib.hid (HL3.out.below hb1)
  have HV := Lib.hid (HV.out.below hb1)
  have HBX := Lib.hid (below_step HBX.out HBX.out.size hb1)
  clear ho hb1 hrd HU8 HA8 HMS HMA
  generalize hN1 : (unitsTo m 8).length = N1 at hul ⊢
  generalize hN2 : (arcsTo m 8).length = N2 at hal ⊢
  have HN1 := Lib.hid hN1
  have HN2 := Lib.hid hN2
  clear hN1 hN2
  go_wp2_with fail
  go_loopg [8, 9, 10] 8 (fun gg s8 s9 s10 wr => ∃ a k n : Nat, a ≤ 8 ∧ 8 - a ≤ gg ∧ s10 = .int .u8 a ∧ s8 = .int .i64 k ∧ s9 = .int .i64 n ∧ Hid (k = (unitsTo m a).length) ∧ Hid (n = (arcsTo m a).length) ∧ Hid (Below w4.heap.size w4 wr))
  case atStart => exact ⟨0, 0, 0, Nat.zero_le _, by omega, rfl, rfl, rfl, Lib.hid rfl, Lib.hid rfl, Lib.hid (Below.refl _ _)⟩
  case round =>
    obtain ⟨a, k, n, ha, hg, rfl, rfl, rfl, E1, E2, HBR⟩ := hrel
    by_cases hlt : a < 8
    · have hltz : (a : Int) < 8 := by omega
      have ha0 : 0 ≤ (a : Int) := by omega
      have ha1 : (a : Int) ≤ 255 := by omega
      go_wp2_with fail
      go_loopg [11, 12] m.length (fun gi s11 s12 wi => ∃ (i : Nat) (u : Bool), i ≤ m.length ∧ m.length - i ≤ gi ∧ s12 = .int .i64 i ∧ s11 = .bool u ∧ Hid (u = usedB (m.take i) a) ∧ Hid (Below w4.heap.size w4 wi))
      case atStart => exact ⟨0, false, Nat.zero_le _, by omega, rfl, rfl, Lib.hid rfl, HBR⟩
      case round =>
        obtain ⟨i, u, hi, hgi, rfl, rfl, HU, HBI⟩ := hrel
        by_cases hlti : i < m.length
        · have hltiz : (i : Int) < (m.length : Int) := by omega
          obtain ⟨x, ex⟩ := get_of_lt hlti
          obtain ⟨b0, o0, rfl, x0, x1, x2⟩ := (HV.out.below HBI.out).rel ex
          have EX := Lib.hid ex
          have e1 : (x.2.1.toList == (unitS a).toList) = decide (x.2.1 = unitS a) := K.beq_str _ _
          have e2 : (x.2.2.toList == (unitS a).toList) = decide (x.2.2 = unitS a) := K.beq_str _ _
          have hu := HU.out
          clear ex HU
          generalize hp1 : decide (x.2.1 = unitS a) = p1 at e1
          generalize hp2 : decide (x.2.2 = unitS a) = p2 at e2
          have HP1 := Lib.hid hp1
          have HP2 := Lib.hid hp2
          have HUU := Lib.hid hu
          clear hp1 hp2 hu
          go_upto_region 16 with fail
          have k1 := cell_regrown x1
          have k2 := cell_regrown x2
          have cQ := low_call (w := wr) (fun W _ => unit_any a W ha0 ha1)
          refine wp_region_low_tail 21 (by kernel_rfl) (by kernel_rfl) ?_
          simp only [List.take_succ_cons, List.take_zero, List.drop_succ_cons, List.drop_zero]
          repeat (go_big_quiet_step (exact cQ _ _))
          cases u
          case true =>
            repeat (go_big_quiet_step (exact cQ _ _))
            refine wpQuiet_nil ?_
            intro z hz
            have HBZ := Lib.hid (below_step HBI.out HBI.out.size (low_of hz))
            clear hz cQ k1 k2 x0 x1 x2 HBI
            go_wp2_with fail
            go_roundg (m.length - (i + 1))
            case measure => omega
            case rel => exact ⟨i + 1, _, by omega, Nat.le_refl _, by go_num, rfl, Lib.hid (by rw [used_step EX.out, ← HUU.out]; rfl), HBZ⟩
          case false =>
            repeat (go_big_quiet_step (exact cQ _ _))
            cases p1
            case true =>
              repeat (go_big_quiet_step (exact cQ _ _))
              refine wpQuiet_nil ?_
              intro z hz
              have HBZ := Lib.hid (below_step HBI.out HBI.out.size (low_of hz))
              clear hz cQ k1 k2 x0 x1 x2 HBI
              go_wp2_with fail
              go_roundg (m.length - (i + 1))
              case measure => omega
              case rel => exact ⟨i + 1, _, by omega, Nat.le_refl _, by go_num, rfl, Lib.hid (by rw [used_step EX.out, ← HUU.out, HP1.out]; simp), HBZ⟩
            case false =>
              repeat (go_big_quiet_step (exact cQ _ _))
              refine wpQuiet_nil ?_
              intro z hz
              have HBZ := Lib.hid (below_step HBI.out HBI.out.size (low_of hz))
              clear hz cQ k1 k2 x0 x1 x2 HBI
              go_wp2_with fail
              go_roundg (m.length - (i + 1))
              case measure => omega
              case rel => exact ⟨i + 1, _, by omega, Nat.le_refl _, by go_num, rfl, Lib.hid (by rw [used_step EX.out, ← HUU.out, HP1.out, HP2.out]; simp), HBZ⟩
        · have hge : ¬ (i : Int) < (m.length : Int) := by omega
          have hu2 : u = usedB m a := by rw [HU.out, List.take_of_length_le (by omega)]
          have HU2 := Lib.hid hu2
          clear hu2 HU HBR
          go_upto_if 74 with fail
          go_cut [8] from 43 to 148 (fun s8 wx => (∃ q : Nat, s8 = .int .i64 q ∧ Hid (q = (unitsTo m (a + 1)).length)) ∧ Hid (Below w4.heap.size w4 wx))
          case first =>
            cases u
            case true =>
              have hat := units_at hlt HU2.out.symm
              rw [← E1.out] at hat
              have hlt1 : k < N1 := by rw [← HN1.out]; exact lt_of_get hat
              obtain ⟨b5, o5, rfl, y0⟩ := (HL3.out.below HBI.out).str hat
              clear hat
              have e1 : ((unitS a).toList == (unitS a).toList) = true := by simp
              have e2 : ((unitS a).toList != (unitS a).toList) = false := by simp
              have hge1 : decide ((N1 : Int) ≤ (k : Int)) = false := by simp; omega
              have hge2 : decide (N1 ≤ k) = false := by simp; omega
              go_wp2_with fail
              have k0 := cell_regrown y0
              have cQ := low_call (w := wr) (fun W _ => unit_any a W ha0 ha1)
              refine wp_region_low_tail 12 (by kernel_rfl) (by kernel_rfl) ?_
              simp only [List.take_succ_cons, List.take_zero, List.drop_succ_cons, List.drop_zero]
              repeat (go_big_quiet_step (exact cQ _ _))
              refine wpQuiet_nil ?_
              intro z hz
              have HBZ := Lib.hid (below_step HBI.out HBI.out.size (low_of hz))
              clear hz cQ k0 y0 HBI
              go_wp2_with fail
              go_meet
              exact ⟨⟨k + 1, by go_num, Lib.hid (by rw [unitsTo_step, ← HU2.out, E1.out]; simp)⟩, HBZ⟩
            case false =>
              go_wp2_with fail
              go_meet
              exact ⟨⟨k, rfl, Lib.hid (by rw [unitsTo_step, ← HU2.out, E1.out]; simp)⟩, HBI⟩
          case rest =>
            obtain ⟨⟨k', rfl, E1'⟩, HBC⟩ := hcut
            clear E1 HU2 HBI
            go_wp2_with fail
            go_loopg [9, 13] 8 (fun gi s9 s13 wi => ∃ (b n : Nat), b ≤ 8 ∧ 8 - b ≤ gi ∧ s13 = .int .u8 b ∧ s9 = .int .i64 n ∧ Hid (n = (arcsTo m a ++ arcRow m a b).length) ∧ Hid (Below w4.heap.size w4 wi))
            case atStart => exact ⟨0, n, Nat.zero_le _, by omega, rfl, rfl, Lib.hid (by rw [E2.out]; simp [arcRow]), HBC⟩
            case round =>
              obtain ⟨b, nb, hb, hgb, rfl, rfl, EB, HBB⟩ := hrel
              by_cases hltb : b < 8
              · have hltbz : (b : Int) < 8 := by omega
                have hb0 : 0 ≤ (b : Int) := by omega
                have hb1 : (b : Int) ≤ 255 := by omega
                go_wp2_with fail
                refine (unit_any a _ ha0 ha1).mono ?_
                rintro e z1 ⟨rfl, hz1⟩
                have HBB := Lib.hid (below_step HBB.out HBB.out.size hz1)
                clear hz1
                go_wp2_with fail
                refine (unit_any b _ hb0 hb1).mono ?_
                rintro e z2 ⟨rfl, hz2⟩
                have HBB := Lib.hid (below_step HBB.out HBB.out.size hz2)
                clear hz2
                go_wp2_with fail
                have g0 : (z2.alloc (.cells #[.string (unitS a), .string (unitS b)] 61)).cell? ⟨z2.heap.size, 0, none⟩ = some (.string (unitS a)) := by simp
                have g1 : (z2.alloc (.cells #[.string (unitS a), .string (unitS b)] 61)).cell? ⟨z2.heap.size, 1, none⟩ = some (.string (unitS b)) := by simp
                have HG0 := Lib.hid g0
                have HG1 := Lib.hid g1
                have HBB := Lib.hid (HBB.out.alloc HBB.out.size (.cells #[.string (unitS a), .string (unitS b)] 61))
                clear g0 g1
                generalize z2.alloc (.cells #[.string (unitS a), .string (unitS b)] 61) = z3 at *
                generalize z2.heap.size = N at *
                go_loopg [15, 16] m.length (fun gi s15 s16 wi => ∃ (i : Nat) (u : Bool), i ≤ m.length ∧ m.length - i ≤ gi ∧ s16 = .int .i64 i ∧ s15 = .bool u ∧ Hid (u = thereB (m.take i) a b) ∧ Hid (Below z3.heap.size z3 wi))
                case atStart => exact ⟨0, false, Nat.zero_le _, by omega, rfl, rfl, Lib.hid rfl, Lib.hid (Below.refl _ _)⟩
                case round =>
                  obtain ⟨i, u, hi, hgi, rfl, rfl, HU, HBI⟩ := hrel
                  by_cases hlti : i < m.length
                  · have hltiz : (i : Int) < (m.length : Int) := by omega
                    obtain ⟨x, ex⟩ := get_of_lt hlti
                    obtain ⟨b0, o0, rfl, x0, x1, x2⟩ := (HV.out.below (below_step HBB.out HBB.out.size HBI.out)).rel ex
                    have g0 := below_cell HBI.out HG0.out
                    have g1 := below_cell HBI.out HG1.out
                    have EX := Lib.hid ex
                    have e0 : (x.1 != 4) = decide (x.1 ≠ 4) := by by_cases h : x.1 = 4 <;> simp [h]
                    have e1 : (x.2.2.toList == (unitS a).toList) = decide (x.2.2 = unitS a) := K.beq_str _ _
                    have e2 : (x.2.1.toList == (unitS b).toList) = decide (x.2.1 = unitS b) := K.beq_str _ _
                    have HUU := Lib.hid HU.out
                    clear ex HU
                    generalize hp0 : decide (x.1 ≠ 4) = p0 at e0
                    generalize hp1 : decide (x.2.2 = unitS a) = p1 at e1
                    generalize hp2 : decide (x.2.1 = unitS b) = p2 at e2
                    have HP0 := Lib.hid hp0
                    have HP1 := Lib.hid hp1
                    have HP2 := Lib.hid hp2
                    clear hp0 hp1 hp2
                    go_upto_region 29 with fail
                    refine wp_region_quiet_lit (by kernel_rfl) (by kernel_rfl) ?_
                    repeat (go_big_quiet_step (fail))
                    cases u
                    case true =>
                      repeat (go_big_quiet_step (fail))
                      refine wpQuiet_nil ?_
                      intro _ hw'
                      obtain ⟨nq, hw''⟩ := hw'
                      subst hw''
                      clear x0 x1 x2 g0 g1
                      go_wp2_with fail
                      go_roundg (m.length - (i + 1))
                      case measure => omega
                      case rel => exact ⟨i + 1, _, by omega, Nat.le_refl _, by go_num, rfl, Lib.hid (by rw [there_step EX.out, ← HUU.out]; rfl), Lib.hid (below_drewN HBI.out _)⟩
                    case false =>
                      repeat (go_big_quiet_step (fail))
                      cases p0
                      case false =>
                        repeat (go_big_quiet_step (fail))
                        refine wpQuiet_nil ?_
                        intro _ hw'
                        obtain ⟨nq, hw''⟩ := hw'
                        subst hw''
                        clear x0 x1 x2 g0 g1
                        go_wp2_with fail
                        go_roundg (m.length - (i + 1))
                        case measure => omega
                        case rel => exact ⟨i + 1, _, by omega, Nat.le_refl _, by go_num, rfl, Lib.hid (by rw [there_step EX.out, ← HUU.out, HP0.out]; simp), Lib.hid (below_drewN HBI.out _)⟩
                      case true =>
                        repeat (go_big_quiet_step (fail))
                        cases p1
                        case false =>
                          repeat (go_big_quiet_step (fail))
                          refine wpQuiet_nil ?_
                          intro _ hw'
                          obtain ⟨nq, hw''⟩ := hw'
                          subst hw''
                          clear x0 x1 x2 g0 g1
                          go_wp2_with fail
                          go_roundg (m.length - (i + 1))
                          case measure => omega
                          case rel => exact ⟨i + 1, _, by omega, Nat.le_refl _, by go_num, rfl, Lib.hid (by rw [there_step EX.out, ← HUU.out, HP0.out, HP1.out]; simp), Lib.hid (below_drewN HBI.out _)⟩
                        case true =>
                          repeat (go_big_quiet_step (fail))
                          refine wpQuiet_nil ?_
                          intro _ hw'
                          obtain ⟨nq, hw''⟩ := hw'
                          subst hw''
                          clear x0 x1 x2 g0 g1
                          go_wp2_with fail
                          go_roundg (m.length - (i + 1))
                          case measure => omega
                          case rel => exact ⟨i + 1, _, by omega, Nat.le_refl _, by go_num, rfl, Lib.hid (by rw [there_step EX.out, ← HUU.out, HP0.out, HP1.out, HP2.out]; simp), Lib.hid (below_drewN HBI.out _)⟩
                  · have hge : ¬ (i : Int) < (m.length : Int) := by omega
                    have hu2 : u = thereB m a b := by rw [HU.out, List.take_of_length_le (by omega)]
                    have HU2 := Lib.hid hu2
                    have g0 := below_cell HBI.out HG0.out
                    have g1 := below_cell HBI.out HG1.out
                    have HBI := Lib.hid (below_step HBB.out HBB.out.size HBI.out)
                    clear hu2 HU HBB HG0 HG1
                    cases u
                    case true =>
                      have hat := arcs_at hlt hltb HU2.out.symm
                      rw [← EB.out] at hat
                      have hlt1 : nb < N2 := by rw [← HN2.out]; exact lt_of_get hat
                      obtain ⟨b5, o5, rfl, y0, y1⟩ := (HL4.out.below HBI.out).arc hat
                      clear hat
                      have hge1 : decide ((N2 : Int) ≤ (nb : Int)) = false := by simp; omega
                      have hge2 : decide (N2 ≤ nb) = false := by simp; omega
                      have hq : ∀ w, (binOp .neq 61 (.agg #[.string (unitS a), .string (unitS b)]) (.agg #[.string (unitS a), .string (unitS b)])).run Tryd.prog w = .ok (.bool false) w := fun w => by rw [neqA (unitS a, unitS b) (unitS a, unitS b), decide_eq_true rfl]; rfl
                      have EB2 := Lib.hid (show nb + 1 = (arcsTo m a ++ arcRow m a (b + 1)).length by rw [arcRow_step, ← HU2.out, EB.out]; simp; omega)
                      go_wp2_with fail
                      go_quiet (fail)
                      go_wp2_with fail
                      go_roundg (8 - (b + 1))
                      case measure => omega
                      case rel => exact ⟨b + 1, nb + 1, by omega, Nat.le_refl _, by go_num, by go_num, EB2, Lib.hid (below_drewN HBI.out _)⟩
                    case false =>
                      have EB2 := Lib.hid (show nb = (arcsTo m a ++ arcRow m a (b + 1)).length by rw [arcRow_step, ← HU2.out, EB.out]; simp)
                      go_wp2_with fail
                      go_roundg (8 - (b + 1))
                      case measure => omega
                      case rel => exact ⟨b + 1, nb, by omega, Nat.le_refl _, by go_num, rfl, EB2, HBI⟩
              · have hge : ¬ (b : Int) < 8 := by omega
                have E2' := Lib.hid (show nb = (arcsTo m (a + 1)).length by rw [arcsTo_step, ← show b = 8 by omega]; exact EB.out)
                clear EB
                go_wp2_with fail
                go_roundg (8 - (a + 1))
                case measure => omega
                case rel => exact ⟨a + 1, k', nb, by omega, Nat.le_refl _, by go_num, rfl, rfl, E1', E2', HBB⟩
    · have hge : ¬ (a : Int) < 8 := by omega
      have hal8 : a = 8 := by omega
      have hn1 : k = N1 := by rw [E1.out, hal8]; exact HN1.out
      have hn2 : n = N2 := by rw [E2.out, hal8]; exact HN2.out
      clear E1 E2 HN1 HN2 hal8
      subst hn1 hn2
      go_wp2_with fail
      go_ret
      exact ⟨rfl, below_step HBX.out HBX.out.size HBR.out⟩
end Go.Proofs.YtpnobpnknlpjnaaDoor
