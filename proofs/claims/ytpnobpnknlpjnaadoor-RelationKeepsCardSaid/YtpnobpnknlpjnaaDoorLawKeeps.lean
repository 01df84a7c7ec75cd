/- The statement about what is kept, walked. -/
import Derived.Test.YtpnobpnknlpjnaaDoorKeepsLaw
import Derived.Test.YtpnobpnknlpjnaaDoorRename
import Derived.Test.YtpnobpnknlpjnaaDoorKnown
import Derived.Test.YtpnobpnknlpjnaaDoorSame
import Derived.Test.YtpnobpnknlpjnaaDoorQTail
import Derived.Deep.LoopGhost
import Derived.Deep.RegionHeld3
import Derived.BigRegion
import Derived.Deep.DeepCutAuto
set_option linter.unusedVariables false
set_option linter.unusedSimpArgs false
namespace Go.Proofs.YtpnobpnknlpjnaaDoor
open Go Go.RowKit

def new1 : ByteArray := ⟨#[110, 101, 119, 95, 49]⟩
theorem new1_name : isNameS new1 = true := by decide +kernel
theorem unit_new (n : Int) : unitS n ≠ new1 := fun e => by
  have h := congrArg ByteArray.size e
  rw [size_unit] at h
  exact absurd h (by decide)
theorem check_ne {x : Rel} (h : checkS x = 0) : x.2.1 ≠ x.2.2 := by
  intro e
  unfold checkS at h
  by_cases h1 : x.1 < 1 ∨ 4 < x.1
  · rw [if_pos h1] at h; exact absurd h (by decide)
  · rw [if_neg h1] at h
    by_cases h2 : isNameS x.2.1 = false ∨ isNameS x.2.2 = false
    · rw [if_pos h2] at h; exact absurd h (by decide)
    · rw [if_neg h2, if_pos e] at h; exact absurd h (by decide)
theorem make_fresh (l : List (Int × Int × Int)) : ∀ x ∈ makeS l, x.2.1 ≠ new1 ∧ x.2.2 ≠ new1 ∧ x.2.1 ≠ x.2.2 := by
  intro x hx
  refine ⟨?_, ?_, check_ne (makeS_ok l x hx)⟩
  · obtain ⟨⟨a, _, e⟩, _⟩ := make_units l x hx
    rw [e]; exact unit_new _
  · obtain ⟨_, ⟨a, _, e⟩⟩ := make_units l x hx
    rw [e]; exact unit_new _
theorem units_len (l : List (Int × Int × Int)) : (unitsS (makeS l)).length ≤ 8 := by
  rw [units_eight (make_units l)]; exact unitsTo_len _ _
theorem arcsS_len (l : List (Int × Int × Int)) : (arcsS (makeS l)).length ≤ 64 := by
  rw [arcs_eight (make_units l)]; exact arcsTo_len _ _

set_option maxRecDepth 10000 in
set_option maxHeartbeats 8000000 in
theorem law_keeps (A : Option Addr) (len cap : Nat) (a : Int) (w : World) (hm : Mx w) (hl : len ≤ 9223372036854775807) (h : len ≤ 12 → ∃ xs : List (Int × Int × Int), xs.length = len ∧ Rd enc3 w A xs ∧ ∀ d ∈ xs, (0 ≤ d.1 ∧ d.1 ≤ 255) ∧ (0 ≤ d.2.1 ∧ d.2.1 ≤ 255) ∧ (0 ≤ d.2.2 ∧ d.2.2 ≤ 255)) (ha : 0 ≤ a ∧ a ≤ 255) :
    Calls Tryd.prog 10 #[.slice A len cap, .int .u8 a] w fun e w' => e = .returned (.bool true) ∧ Below w.heap.size w w' := by
  have HM := Lib.hid hm
  clear hm
  rcases Nat.lt_or_ge 12 len with hlen | hlen
  · clear h
    have h12 : (12 : Int) < (len : Int) := by omega
    go_enter Tryd.func10, Tryd.ntmps10
    go_wp2_with fail
    refine (known_any _ HM.out).mono ?_
    rintro e w1 ⟨rfl, hb1⟩
    have HB := Lib.hid hb1
    clear hb1
    go_wp2_with fail
    refine (known_any _ (HM.out.below HB.out HM.out.pos)).mono ?_
    rintro e w2 ⟨rfl, hb1⟩
    have HB2 := Lib.hid (below_step HB.out HB.out.size hb1)
    clear hb1
    go_wp2_with fail
    go_ret
    exact ⟨rfl, HB2.out⟩
  obtain ⟨xs, rfl, hx, hr⟩ := h hlen
  have h12 : ¬ (12 : Int) < (xs.length : Int) := by omega
  have HX := Lib.hid hx
  have HR := Lib.hid hr
  have hna := name_unit a (Int.emod_nonneg _ (by omega))
  have hsa : (unitS a).size ≤ 9223372036854775807 := by rw [size_unit]; omega
  have hsn : new1.size ≤ 9223372036854775807 := by decide
  have hml := makeS_len xs
  have hul := units_len xs
  have hal := arcsS_len xs
  have HMS := Lib.hid (makeS_size xs)
  have HMA := Lib.hid (makeS_all xs)
  have HOK := Lib.hid (makeS_ok xs)
  have HFR := Lib.hid (make_fresh xs)
  have HMK := Lib.hid (show makeS xs = makeS xs from rfl)
  clear hx hr h
  go_enter Tryd.func10, Tryd.ntmps10
  go_wp2_with fail
  refine (known_any _ HM.out).mono ?_
  rintro e w1 ⟨rfl, hb1⟩
  have HB := Lib.hid hb1
  clear hb1
  go_wp2_with fail
  refine (make_any A cap xs _ (HX.out.below HB.out) HR.out).mono ?_
  rintro e w2 ⟨v, rfl, ho, hb1⟩
  generalize makeS xs = m at *
  obtain ⟨B, c, rfl, hrd, hBo⟩ := ho.view (by omega)
  have HBX := Lib.hid (below_step HB.out HB.out.size hb1)
  have HV := Lib.hid hrd
  clear ho hb1 hrd HX HR HMK h12 hlen HB
  have hnl := normalS_len m
  have HNO := Lib.hid (normal_ok HOK.out)
  have HNA := Lib.hid (normal_all HOK.out (by omega))
  have HNS := Lib.hid (normal_size HMS.out)
  have HN1 := Lib.hid (names_two HMA.out hna new1_name)
  have HR1 := Lib.hid (show renameE m (unitS a) new1 = 0 by unfold renameE; rw [if_pos HN1.out, ren_fresh_all HFR.out]; rfl)
  have HMA2 := Lib.hid (ren_all new1_name HOK.out (ren_fresh_all HFR.out) (by omega) : checkAllS (m.map (renS (unitS a) new1)) = 0)
  have HR2 := Lib.hid (show renameE (m.map (renS (unitS a) new1)) new1 (unitS a) = 0 by unfold renameE; rw [if_pos (names_two HMA2.out new1_name hna), ren_back_bad HFR.out]; rfl)
  have HMS2 := Lib.hid (ren_size (a := unitS a) hsn HMS.out)
  have HBK := Lib.hid (ren_back_all (a := unitS a) HFR.out)
  clear hna HFR HNO HOK
  have hm2l : (m.map (renS (unitS a) new1)).length ≤ 12 := by simp; omega
  obtain ⟨m2, hm2⟩ : ∃ m2, m2 = m.map (renS (unitS a) new1) := ⟨_, rfl⟩
  rw [← hm2] at HMA2 HR2 HMS2 HBK hm2l
  have HM2 := Lib.hid hm2
  clear hm2
  go_wp2_with fail
  refine (normal_lib B c m _ HV.out hBo HMS.out).mono ?_
  rintro e w3 ⟨v, rfl, ho, hb1⟩
  rw [if_pos HMA.out] at ho
  rw [HMA.out]
  skip
  obtain ⟨B3, c3, rfl, hrd, hA3⟩ := ho.view (by omega)
  have HL3 := Lib.hid hrd
  have HV := Lib.hid (HV.out.below hb1)
  have HBX := Lib.hid (below_step HBX.out HBX.out.size hb1)
  clear ho hb1 hrd
  have HN := HL3
  clear HL3
  go_wp2_with fail
  refine (normal_lib B3 c3 (normalS m) _ HN.out hA3 HNS.out).mono ?_
  rintro e w4 ⟨v, rfl, ho, hb1⟩
  rw [if_pos HNA.out, normal_normal] at ho
  rw [HNA.out]
  skip
  obtain ⟨B4, c4, rfl, hrd, hA4⟩ := ho.view (by omega)
  have HL4 := Lib.hid hrd
  have HV := Lib.hid (HV.out.below hb1)
  have HN := Lib.hid (HN.out.below hb1)
  have HBX := Lib.hid (below_step HBX.out HBX.out.size hb1)
  clear ho hb1 hrd
  go_wp2_with fail
  refine (units_lib B c m _ HV.out HMS.out).mono ?_
  rintro e w5 ⟨v, rfl, ho, hb1⟩
  rw [if_pos HMA.out] at ho
  rw [HMA.out]
  skip
  obtain ⟨B5, c5, rfl, hrd, hA5⟩ := ho.view (by omega)
  have HL5 := Lib.hid hrd
  have HV := Lib.hid (HV.out.below hb1)
  have HN := Lib.hid (HN.out.below hb1)
  have HL4 := Lib.hid (HL4.out.below hb1)
  have HBX := Lib.hid (below_step HBX.out HBX.out.size hb1)
  clear ho hb1 hrd
  go_wp2_with fail
  refine (units_lib B3 c3 (normalS m) _ HN.out HNS.out).mono ?_
  rintro e w6 ⟨v, rfl, ho, hb1⟩
  rw [if_pos HNA.out, units_normal] at ho
  rw [HNA.out]
  skip
  obtain ⟨B6, c6, rfl, hrd, hA6⟩ := ho.view (by omega)
  have HL6 := Lib.hid hrd
  have HV := Lib.hid (HV.out.below hb1)
  have HN := Lib.hid (HN.out.below hb1)
  have HL4 := Lib.hid (HL4.out.below hb1)
  have HL5 := Lib.hid (HL5.out.below hb1)
  have HBX := Lib.hid (below_step HBX.out HBX.out.size hb1)
  clear ho hb1 hrd
  generalize unitsS m = U at *
  go_wp2_with fail
  refine (same_any B3 B4 c3 c4 (normalS m) (normalS m) _ HN.out HL4.out).mono ?_
  rintro e w7 ⟨rfl, n7, rfl⟩
  rw [decide_eq_true rfl]
  have HV := Lib.hid (HV.out.drew n7)
  have HN := Lib.hid (HN.out.drew n7)
  have HL5 := Lib.hid (HL5.out.drew n7)
  have HL6 := Lib.hid (HL6.out.drew n7)
  have HBX := Lib.hid (below_drewN HBX.out n7)
  clear HL4
  generalize w6.drewN n7 = W7 at *
  go_wp2_with fail
  go_loopg [14] U.length (fun gg i wr => ∃ k n : Nat, k ≤ U.length ∧ U.length - k ≤ gg ∧ i = .int .i64 k ∧ wr = W7.drewN n)
  case atStart => exact ⟨0, 0, Nat.zero_le _, by omega, rfl, rfl⟩
  case round =>
    obtain ⟨k, n, hk, hg, rfl, rfl⟩ := hrel
    by_cases hlt : k < U.length
    · have hltz : (k : Int) < (U.length : Int) := by omega
      obtain ⟨x, ex⟩ := get_of_lt hlt
      obtain ⟨b5, o5, rfl, x0⟩ := HL5.out.str ex
      obtain ⟨b6, o6, rfl, y0⟩ := HL6.out.str ex
      have e1 : (x.toList == x.toList) = true := by simp
      have e2 : (x.toList != x.toList) = false := by simp
      clear ex
      go_wp2_with fail
      go_quiet (fail)
      go_wp2_with fail
      go_roundg (U.length - (k + 1))
      case measure => omega
      case rel => exact ⟨k + 1, _, by omega, Nat.le_refl _, by go_num, rfl⟩
    · have hge : ¬ (k : Int) < (U.length : Int) := by omega
      have HV := Lib.hid (HV.out.drew n)
      have HN := Lib.hid (HN.out.drew n)
      have HBX := Lib.hid (below_drewN HBX.out n)
      clear HL5 HL6
      generalize W7.drewN n = W8 at *
      go_wp2_with fail
      refine (arcs_lib B c m _ HV.out HMS.out).mono ?_
      rintro e w9 ⟨v, rfl, ho, hb1⟩
      rw [if_pos HMA.out] at ho
      rw [HMA.out]
      skip
      obtain ⟨B9, c9, rfl, hrd, hA9⟩ := ho.view (by omega)
      have HL9 := Lib.hid hrd
      have HV := Lib.hid (HV.out.below hb1)
      have HN := Lib.hid (HN.out.below hb1)
      have HBX := Lib.hid (below_step HBX.out HBX.out.size hb1)
      clear ho hb1 hrd
      go_wp2_with fail
      refine (arcs_lib B3 c3 (normalS m) _ HN.out HNS.out).mono ?_
      rintro e w10 ⟨v, rfl, ho, hb1⟩
      rw [if_pos HNA.out, arcs_normal] at ho
      rw [HNA.out]
      skip
      obtain ⟨B10, c10, rfl, hrd, hA10⟩ := ho.view (by omega)
      have HL10 := Lib.hid hrd
      have HV := Lib.hid (HV.out.below hb1)
      have HL9 := Lib.hid (HL9.out.below hb1)
      have HBX := Lib.hid (below_step HBX.out HBX.out.size hb1)
      clear ho hb1 hrd
      generalize arcsS m = R at *
      clear HN
      go_wp2_with fail
      go_loopg [17] R.length (fun gg i wr => ∃ k n : Nat, k ≤ R.length ∧ R.length - k ≤ gg ∧ i = .int .i64 k ∧ wr = w10.drewN n)
      case atStart => exact ⟨0, 0, Nat.zero_le _, by omega, rfl, rfl⟩
      case round =>
        obtain ⟨k2, n, hk2, hg2, rfl, rfl⟩ := hrel
        by_cases hlt2 : k2 < R.length
        · have hltz : (k2 : Int) < (R.length : Int) := by omega
          obtain ⟨x, ex⟩ := get_of_lt hlt2
          obtain ⟨b5, o5, rfl, x0, x1⟩ := HL9.out.arc ex
          obtain ⟨b6, o6, rfl, y0, y1⟩ := HL10.out.arc ex
          have hq : ∀ w, (binOp .neq 61 (.agg #[.string x.1, .string x.2]) (.agg #[.string x.1, .string x.2])).run Tryd.prog w = .ok (.bool false) w := fun w => by rw [neqA x x, decide_eq_true rfl]; rfl
          clear ex
          go_wp2_with fail
          go_quiet (fail)
          go_wp2_with fail
          go_roundg (R.length - (k2 + 1))
          case measure => omega
          case rel => exact ⟨k2 + 1, _, by omega, Nat.le_refl _, by go_num, rfl⟩
        · have hge : ¬ (k2 : Int) < (R.length : Int) := by omega
          have HV := Lib.hid (HV.out.drew n)
          have HBX := Lib.hid (below_drewN HBX.out n)
          clear HL9 HL10
          generalize w10.drewN n = W11 at *
          go_wp2_with fail
          refine (unit_any a _ ha.1 ha.2).mono ?_
          rintro e w12 ⟨rfl, hb1⟩
          have HV := Lib.hid (HV.out.below hb1)
          have HBX := Lib.hid (below_step HBX.out HBX.out.size hb1)
          clear hb1
          go_wp2_with fail
          refine (rename_lib B c m (unitS a) new1 _ HV.out hBo HMS.out hsa hsn).mono ?_
          rintro e w13 ⟨v, rfl, ho, hb1⟩
          rw [if_pos HR1.out, ← HM2.out] at ho
          rw [HR1.out]
          skip
          obtain ⟨B13, c13, rfl, hrd, hA13⟩ := ho.view (by omega)
          have HL13 := Lib.hid hrd
          have HV := Lib.hid (HV.out.below hb1)
          have HBX := Lib.hid (below_step HBX.out HBX.out.size hb1)
          clear ho hb1 hrd
          go_wp2_with fail
          refine (unit_any a _ ha.1 ha.2).mono ?_
          rintro e w14 ⟨rfl, hb1⟩
          have HV := Lib.hid (HV.out.below hb1)
          have HL13 := Lib.hid (HL13.out.below hb1)
          have HBX := Lib.hid (below_step HBX.out HBX.out.size hb1)
          clear hb1
          go_wp2_with fail
          refine (rename_lib B13 c13 m2 new1 (unitS a) _ HL13.out hA13 HMS2.out hsn hsa).mono ?_
          rintro e w15 ⟨v, rfl, ho, hb1⟩
          rw [if_pos HR2.out, HBK.out] at ho
          rw [HR2.out]
          skip
          obtain ⟨B15, c15, rfl, hrd, hA15⟩ := ho.view (by omega)
          have HL15 := Lib.hid hrd
          have HV := Lib.hid (HV.out.below hb1)
          have HBX := Lib.hid (below_step HBX.out HBX.out.size hb1)
          clear ho hb1 hrd
          have hol : (opposedS m).length ≤ 12 * 12 := Nat.le_trans (oppTo_len _ _) (Nat.mul_le_mul hml hml)
          go_wp2_with fail
          refine (opposed_lib B c m _ HV.out HMS.out).mono ?_
          rintro e w16 ⟨v, rfl, ho, hb1⟩
          rw [if_pos HMA.out] at ho
          rw [HMA.out]
          skip
          obtain ⟨B16, c16, rfl, hrd, hA16⟩ := ho.view (by omega)
          have HL16 := Lib.hid hrd
          have HV := Lib.hid (HV.out.below hb1)
          have HL15 := Lib.hid (HL15.out.below hb1)
          have HBX := Lib.hid (below_step HBX.out HBX.out.size hb1)
          clear ho hb1 hrd
          have HOP := Lib.hid (fun p (hp : p ∈ opposedS m) => mem_opposed hp)
          generalize opposedS m = O at *
          go_wp2_with fail
          refine (same_any B15 B c15 c m m _ HL15.out HV.out).mono ?_
          rintro e w17 ⟨rfl, n17, rfl⟩
          rw [decide_eq_true rfl]
          have HV := Lib.hid (HV.out.drew n17)
          have HL16 := Lib.hid (HL16.out.drew n17)
          have HBX := Lib.hid (below_drewN HBX.out n17)
          clear HL15
          generalize w16.drewN n17 = W17 at *
          go_wp2_with fail
          go_loopg [21] O.length (fun gg i wr => ∃ k : Nat, k ≤ O.length ∧ O.length - k ≤ gg ∧ i = .int .i64 k ∧ Hid (Below W17.heap.size W17 wr))
          case atStart => exact ⟨0, Nat.zero_le _, by omega, rfl, Lib.hid (Below.refl _ _)⟩
          case round =>
            obtain ⟨k3, hk3, hg3, rfl, HBR⟩ := hrel
            by_cases hlt3 : k3 < O.length
            · have hltz : (k3 : Int) < (O.length : Int) := by omega
              obtain ⟨p, ep⟩ := get_of_lt hlt3
              obtain ⟨i, j, x, y, rfl, ex, ey, h1, h2⟩ := HOP.out p (List.mem_of_getElem? ep)
              obtain ⟨b6, o6, rfl, p0, p1⟩ := (HL16.out.below HBR.out).two ep
              obtain ⟨b5, o5, rfl, x0, x1, x2⟩ := (HV.out.below HBR.out).rel ex
              obtain ⟨_, _, eb, y0, y1, y2⟩ := (HV.out.below HBR.out).rel ey
              cases eb
              obtain ⟨xk, xu, xl⟩ := x
              obtain ⟨yk, yu, yl⟩ := y
              simp only at h1 h2 x0 x1 x2 y0 y1 y2 p0 p1
              have hi := lt_of_get ex
              have hj := lt_of_get ey
              have hiz : (i : Int) < (m.length : Int) := by omega
              have hjz : (j : Int) < (m.length : Int) := by omega
              clear ep ex ey
              subst h1 h2
              have e1 : (xu.toList == xu.toList) = true := by simp
              have e2 : (xl.toList == xl.toList) = true := by simp
              have e3 : (xu.toList != xu.toList) = false := by simp
              have e4 : (xl.toList != xl.toList) = false := by simp
              go_upto_region 34 with fail
              have HBR2 := Lib.hid HBR.out
              have al1 : ∀ o, Below wr.heap.size wr (wr.alloc o) := fun o => (Below.refl _ _).alloc (Nat.le_refl _) o
              have al2 : ∀ o q, Below wr.heap.size wr ((wr.alloc o).alloc q) := fun o q => (al1 o).alloc (by simp) q
              have ap0 := fun o => below_cell (al1 o) p0
              have bp0 := fun o q => below_cell (al2 o q) p0
              have ap1 := fun o => below_cell (al1 o) p1
              have bp1 := fun o q => below_cell (al2 o q) p1
              have ax0 := fun o => below_cell (al1 o) x0
              have bx0 := fun o q => below_cell (al2 o q) x0
              have ax1 := fun o => below_cell (al1 o) x1
              have bx1 := fun o q => below_cell (al2 o q) x1
              have ax2 := fun o => below_cell (al1 o) x2
              have bx2 := fun o q => below_cell (al2 o q) x2
              have ay0 := fun o => below_cell (al1 o) y0
              have by0 := fun o q => below_cell (al2 o q) y0
              have ay1 := fun o => below_cell (al1 o) y1
              have by1 := fun o q => below_cell (al2 o q) y1
              have ay2 := fun o => below_cell (al1 o) y2
              have by2 := fun o q => below_cell (al2 o q) y2
              have AL2 := Lib.hid al2
              clear al1 al2 HBR
              go_region_held3 (fun w' => w'.cell? ⟨b6, o6 + k3 * 2, none⟩ = some (.int .i64 i) ∧ w'.cell? ⟨b6, o6 + k3 * 2 + 1, none⟩ = some (.int .i64 j) ∧ w'.cell? ⟨b5, o5 + i * 3, none⟩ = some (.int .i64 xk) ∧ w'.cell? ⟨b5, o5 + i * 3 + 1, none⟩ = some (.string xu) ∧ w'.cell? ⟨b5, o5 + i * 3 + 2, none⟩ = some (.string xl) ∧ w'.cell? ⟨b5, o5 + j * 3, none⟩ = some (.int .i64 yk) ∧ w'.cell? ⟨b5, o5 + j * 3 + 1, none⟩ = some (.string xl) ∧ w'.cell? ⟨b5, o5 + j * 3 + 2, none⟩ = some (.string xu))
                (first
                  | (refine ⟨?_, ?_, ?_, ?_, ?_, ?_, ?_, ?_⟩ <;> assumption)
                  | go_keep)
                (first | fail)
              all_goals
                go_wp2_with fail
                go_roundg (O.length - (k3 + 1))
                case measure => omega
                case rel => exact ⟨k3 + 1, by omega, Nat.le_refl _, by go_num, Lib.hid (below_drewN (below_step HBR2.out HBR2.out.size (AL2.out _ _)) 1)⟩
            · have hge : ¬ (k3 : Int) < (O.length : Int) := by omega
              go_wp2_with fail
              go_ret
              exact ⟨rfl, below_step HBX.out HBX.out.size HBR.out⟩
end Go.Proofs.YtpnobpnknlpjnaaDoor
