import Derived.Test.YtpnobpnknlpjnaaDoorOwn
import Derived.Test.YtpnobpnknlpjnaaDoorUnit
set_option linter.unusedVariables false
set_option linter.unusedSimpArgs false
namespace Go.Proofs.YtpnobpnknlpjnaaDoor
open Go Go.RowKit
theorem infoR : (Tryd.prog.info? 33).map (fun i => (i.zero, i.size, i.bytes)) = some (some (.agg #[.int .i64 0, .string ⟨#[]⟩, .string ⟨#[]⟩]), 3, 40) := by kernel_rfl
set_option maxRecDepth 10000 in
set_option maxHeartbeats 1000000 in
theorem make_any (A : Option Addr) (c : Nat) (xs : List (Int × Int × Int)) (w : World) (hx : Rd enc3 w A xs) (hr : ∀ d ∈ xs, (0 ≤ d.1 ∧ d.1 ≤ 255) ∧ (0 ≤ d.2.1 ∧ d.2.1 ≤ 255) ∧ (0 ≤ d.2.2 ∧ d.2.2 ≤ 255)) :
    Calls Tryd.prog 13 #[.slice A xs.length c] w fun e w' => ∃ v, e = .returned v ∧ Own encR 3 33 w.heap.size w' v (makeS xs) ∧ Below w.heap.size w w' := by
  have hlx := hx.1
  have HR := Lib.hid hr
  clear hr
  go_enter Tryd.func13, Tryd.ntmps13
  go_wp2_with fail
  go_loopw [3, 4] (fun v i wr => ∃ k : Nat, k ≤ xs.length ∧ k ≤ 12 ∧ i = .int .i64 k ∧ Hid (Own encR 3 33 w.heap.size wr v ((xs.map mkS).take k)) ∧ Hid (Below w.heap.size w wr)) (fun _ i _ => xs.length - (intOf i).toNat)
  case atStart => exact ⟨0, Nat.zero_le _, by omega, rfl, Lib.hid (Own.nil _ _ _ _ _), Lib.hid (Below.refl _ _)⟩
  case round =>
    obtain ⟨k, hk, hk12, rfl, HO, HB⟩ := hrel
    by_cases hlt : k < xs.length
    · by_cases h12 : k < 12
      · obtain ⟨⟨p, q, r⟩, ex⟩ := get_of_lt hlt
        obtain ⟨⟨p0, p1⟩, ⟨q0, q1⟩, ⟨r0, r1⟩⟩ := HR.out _ (List.mem_of_getElem? ex)
        have hxr := hx.below HB.out
        obtain ⟨b1, o1, rfl, h0, h1, h2⟩ := hxr.seen ex
        simp only at p0 p1 q0 q1 r0 r1 h0 h1 h2
        have EX := Lib.hid ex
        clear hx ex hxr
        by_cases he : r % 8 = q % 8
        · have hb : (r % 8 == q % 8) = true := by simp [he]
          have HE := Lib.hid he
          clear he
          go_wp2_with fail
          have k0 := cell_regrown h0
          have k1 := cell_regrown h1
          have k2 := cell_regrown h2
          have cQ := low_call (w := wr) (fun W _ => unit_any q W q0 q1)
          have cR := low_call (w := wr) (fun W _ => unit_any (r % 8 + 1) W (by omega) (by omega))
          refine wp_region_low_tail1 18 _ rfl rfl (by kernel_rfl) (by kernel_rfl) (fun _ _ _ h => h) ?_
          simp only [List.take_succ_cons, List.take_zero, List.drop_succ_cons, List.drop_zero, Act.put, Act.eval, Array.getD_eq_getD_getElem?]
          repeat (first | go_big_quiet_step (first | exact cQ _ _ | exact cR _ _) | quiet_step (first | exact cQ _ _ | exact cR _ _))
          refine wpQuiet_nil ?_
          intro w2 hw2
          have hb2 := low_of hw2
          have HO2 := Lib.hid (HO.out.below hb2)
          have HB2 := Lib.hid (below_step HB.out HB.out.size hb2)
          have hz := HB2.out.size
          clear hw2 hb2 k0 k1 k2 cQ cR h0 h1 h2 HO HB
          go_wp2_with (at_builtin; go_must (refine own_append encR 3 (fun _ => rfl) (fun x u hu => by simp [encR] at hu; rcases hu with rfl | rfl | rfl <;> rfl) (by decide) w.heap.size rfl (.tmp 32) (.tmp 50) 24 33 _ 40 rfl Tryd.underlying24 infoR rfl (by decide) u3 _ (mkS (p, q, r)) _ ?hcs rfl rfl HO2.out HB2.out hz ?hlen ?_))
          case hcs => simp [encR, mkS, HE.out]
          case hlen => simp; omega
          intro v1 w3 ho3 hb3 hg3
          have HO3 := Lib.hid ho3
          have HB3 := Lib.hid hb3
          clear ho3 hb3 hg3 HO2 HB2 hz
          go_wp2_with fail
          go_roundw
          case rel =>
            refine ⟨k + 1, by omega, by omega, by go_num, Lib.hid ?_, HB3⟩
            have := HO3.out
            rw [List.take_add_one, List.getElem?_map, EX.out]
            exact this
          case measure => simp [intOf]; omega
        · have hb : (r % 8 == q % 8) = false := by simp [he]
          have HE := Lib.hid he
          clear he
          go_wp2_with fail
          have k0 := cell_regrown h0
          have k1 := cell_regrown h1
          have k2 := cell_regrown h2
          have cQ := low_call (w := wr) (fun W _ => unit_any q W q0 q1)
          have cR := low_call (w := wr) (fun W _ => unit_any (r % 8) W (by omega) (by omega))
          refine wp_region_low_tail1 18 _ rfl rfl (by kernel_rfl) (by kernel_rfl) (fun _ _ _ h => h) ?_
          simp only [List.take_succ_cons, List.take_zero, List.drop_succ_cons, List.drop_zero, Act.put, Act.eval, Array.getD_eq_getD_getElem?]
          repeat (first | go_big_quiet_step (first | exact cQ _ _ | exact cR _ _) | quiet_step (first | exact cQ _ _ | exact cR _ _))
          refine wpQuiet_nil ?_
          intro w2 hw2
          have hb2 := low_of hw2
          have HO2 := Lib.hid (HO.out.below hb2)
          have HB2 := Lib.hid (below_step HB.out HB.out.size hb2)
          have hz := HB2.out.size
          clear hw2 hb2 k0 k1 k2 cQ cR h0 h1 h2 HO HB
          go_wp2_with (at_builtin; go_must (refine own_append encR 3 (fun _ => rfl) (fun x u hu => by simp [encR] at hu; rcases hu with rfl | rfl | rfl <;> rfl) (by decide) w.heap.size rfl (.tmp 32) (.tmp 50) 24 33 _ 40 rfl Tryd.underlying24 infoR rfl (by decide) u3 _ (mkS (p, q, r)) _ ?hcs rfl rfl HO2.out HB2.out hz ?hlen ?_))
          case hcs => simp [encR, mkS, HE.out]
          case hlen => simp; omega
          intro v1 w3 ho3 hb3 hg3
          have HO3 := Lib.hid ho3
          have HB3 := Lib.hid hb3
          clear ho3 hb3 hg3 HO2 HB2 hz
          go_wp2_with fail
          go_roundw
          case rel =>
            refine ⟨k + 1, by omega, by omega, by go_num, Lib.hid ?_, HB3⟩
            have := HO3.out
            rw [List.take_add_one, List.getElem?_map, EX.out]
            exact this
          case measure => simp [intOf]; omega
      · have hge : ¬ (k : Int) < 12 := by omega
        have HK := Lib.hid (show makeS xs = (xs.map mkS).take k by unfold makeS; rw [show k = 12 by omega, List.map_take])
        go_wp2_with fail
        go_ret
        exact ⟨_, rfl, by rw [HK.out]; exact HO.out, HB.out⟩
    · have hge : ¬ (k : Int) < (xs.length : Int) := by omega
      have HK := Lib.hid (show makeS xs = (xs.map mkS).take k by unfold makeS; rw [List.take_of_length_le (by omega), List.take_of_length_le (by simp; omega)])
      go_wp2_with fail
      go_ret
      exact ⟨_, rfl, by rw [HK.out]; exact HO.out, HB.out⟩
end Go.Proofs.YtpnobpnknlpjnaaDoor
