/- slices.Compact over names. -/
import Derived.Test.YtpnobpnknlpjnaaGreatDoorPut
import Derived.Test.YtpnobpnknlpjnaaGreatDoorEq
set_option linter.unusedVariables false
set_option linter.unusedSimpArgs false
namespace Go.Proofs.YtpnobpnknlpjnaaGreatDoor
open Go Go.RowKit

theorem Own.str {e base g cap n : Nat} {w : World} {xs : List ByteArray} (h : Own encS 1 e base w (.slice (some ⟨g, 0, none⟩) n cap) xs) {i : Nat} {x : ByteArray} (hx : xs[i]? = some x) : w.cell? ⟨g, i, none⟩ = some (.string x) := by
  obtain rfl := h.len.1
  have := h.at (k := 1) (fun _ => rfl) hx 0 (by decide) _ rfl
  rwa [Nat.mul_one, Nat.add_zero] at this

set_option maxRecDepth 10000 in
set_option maxHeartbeats 2000000 in
theorem compact_S (v : Value) (xs : List ByteArray) (base : Nat) (w : World) (hO : Own encS 1 9 base w v xs) (hl : xs.length ≤ 140737488355328) :
    Calls Tryz.prog 24 #[v] w fun e w' => ∃ v', e = .returned v' ∧ Own encS 1 9 base w' v' (K.compact xs) ∧ w.grownBy w' v.ownBlock ∧ v'.ownBlock = v.ownBlock := by
  rcases (show v = .slice none 0 0 ∧ xs = [] ∨ ∃ g cap, v = .slice (some ⟨g, 0, none⟩) xs.length cap from by
    rcases hO.2 with ⟨h, h1⟩ | ⟨g, cap, cur, h, _⟩
    · exact .inl ⟨h, List.eq_nil_of_length_eq_zero h1⟩
    · exact .inr ⟨g, cap, h⟩) with ⟨rfl, rfl⟩ | ⟨g, cap, rfl⟩
  · have HO := Lib.hid hO
    clear hO
    go_enter Tryz.func24, Tryz.ntmps24
    go_wp2_with fail
    go_ret
    exact ⟨_, rfl, by simpa [K.compact] using HO.out, World.grownBy.refl _ _, rfl⟩
  obtain ⟨_, hnc, hcm⟩ := hO.len
  unfold maxLen at hcm
  by_cases hn : xs.length < 2
  · have hlt2 : (xs.length : Int) < 2 := by omega
    have hk : K.compact xs = xs := by
      match xs, hn with
      | [], _ => rfl
      | [x], _ => rfl
    have HK := Lib.hid hk
    have HO := Lib.hid hO
    clear hO hk
    go_enter Tryz.func24, Tryz.ntmps24
    go_wp2_with fail
    go_ret
    exact ⟨_, rfl, by rw [HK.out]; exact HO.out, World.grownBy.refl _ _, rfl⟩
  have hlt2 : ¬ (xs.length : Int) < 2 := by omega
  go_enter Tryz.func24, Tryz.ntmps24
  go_wp2_with fail
  go_loopw [3] (fun i wr => ∃ k : Nat, 1 ≤ k ∧ k ≤ xs.length ∧ i = .int .i64 k ∧ Hid (K.compact (xs.take k) = xs.take k) ∧ ∃ n, wr = w.drewN n) (fun i _ => xs.length - (intOf i).toNat)
  case atStart =>
    refine ⟨1, Nat.le_refl _, by omega, rfl, Lib.hid ?_, 0, rfl⟩
    match xs, hn with
    | [], _ => rfl
    | x :: _, _ => rfl
  case round =>
    obtain ⟨k, hk1, hk, rfl, HT, n, rfl⟩ := hrel
    by_cases hlt : k < xs.length
    · obtain ⟨x, ex⟩ := get_of_lt hlt
      obtain ⟨y, ey⟩ := get_of_lt (show k - 1 < xs.length by omega)
      have x0 := hO.str ex
      have y0 := hO.str ey
      have hsub : ((k : Int) - 1) = ((k - 1 : Nat) : Int) := by omega
      have hstep := K.compact_step hk1 ex ey
      have EX := Lib.hid ex
      have HS := Lib.hid hstep
      have HO := Lib.hid hO
      clear hO ex ey hstep
      have hq : (x.toList == y.toList) = decide (x = y) := K.beq_str x y
      by_cases e : x = y
      · rw [decide_eq_true e] at hq
        have hc1 : K.compact (xs.take (k + 1)) = xs.take k := by rw [HS.out, if_pos e.symm, HT.out]
        have HC1 := Lib.hid hc1
        clear e hc1
        go_wp2_with fail
        go_quiet (fail)
        go_wp2_with fail
        clear x0 y0 hq
        go_loopw [3, 5] (fun i j wr => ∃ (m q : Nat), i = .int .i64 m ∧ j = .int .i64 q ∧ 1 ≤ q ∧ k + q ≤ xs.length ∧ m + 1 ≤ k + q ∧ Hid (m = (K.compact (xs.take (k + q))).length) ∧ Hid (Own encS 1 9 base wr (.slice (some ⟨g, 0, none⟩) xs.length cap) (K.compact (xs.take (k + q)) ++ xs.drop m)) ∧ Hid (w.grownBy wr (some g))) (fun _ j _ => xs.length - (intOf j).toNat)
        case atStart =>
          refine ⟨k, 1, rfl, rfl, Nat.le_refl _, by omega, Nat.le_refl _, Lib.hid ?_, Lib.hid ?_, Lib.hid ⟨rfl, rfl, rfl, by simp, fun _ _ _ => rfl⟩⟩
          · rw [HC1.out]; simp; omega
          · rw [HC1.out, List.take_append_drop]; exact HO.out
        case round =>
          obtain ⟨m, q, rfl, rfl, hq1, hkq, hmq, HM, HW, HG⟩ := hrel
          by_cases hl2 : k + q < xs.length
          · obtain ⟨u, eu⟩ := get_of_lt hl2
            obtain ⟨t, et⟩ := get_of_lt (show k + q - 1 < xs.length by omega)
            have hstep := K.compact_step (by omega) eu et
            have hz : ∀ j, m ≤ j → (K.compact (xs.take (k + q)) ++ xs.drop m)[j]? = xs[j]? := fun j hj => by
              rw [List.getElem?_append_right (by have h9 := HM.out; omega), List.getElem?_drop, ← HM.out, show m + (j - m) = j by omega]
            have x0 := HW.out.str ((hz (k + q) (by omega)).trans eu)
            have y0 := HW.out.str ((hz (k + q - 1) (by omega)).trans et)
            rw [show k + q - 1 = k + (q - 1) by omega] at y0
            have hsub2 : ((q : Int) - 1) = ((q - 1 : Nat) : Int) := by omega
            have hq2 : (u.toList == t.toList) = decide (u = t) := K.beq_str u t
            have HST := Lib.hid hstep
            clear hz eu et hstep
            by_cases e2 : u = t
            · rw [decide_eq_true e2] at hq2
              have hc2 : K.compact (xs.take (k + (q + 1))) = K.compact (xs.take (k + q)) := by rw [← Nat.add_assoc, HST.out, if_pos e2.symm]
              have HC2 := Lib.hid hc2
              clear e2 hc2
              go_wp2_with fail
              go_quiet (fail)
              go_wp2_with fail
              go_roundw
              case rel => exact ⟨m, q + 1, rfl, by go_num, by omega, by omega, by omega, Lib.hid (by rw [HC2.out]; exact HM.out), Lib.hid (by rw [HC2.out]; exact HW.out), Lib.hid (World.grownBy.trans HG.out ⟨rfl, rfl, rfl, by simp, fun _ _ _ => rfl⟩)⟩
              case measure => simp [intOf]; omega
            · rw [decide_eq_false e2] at hq2
              have hc2 : K.compact (xs.take (k + (q + 1))) = K.compact (xs.take (k + q)) ++ [u] := by rw [← Nat.add_assoc, HST.out, if_neg (fun h => e2 h.symm)]
              have HC2 := Lib.hid hc2
              have hset := fun nq => own_set' (enc := encS) (k := 1) (w := wr.drewN nq) (fun _ => rfl) (xs := K.compact (xs.take (k + q)) ++ xs.drop m) HW.out m (by omega) u
              have hi0 := HW.out.ice m
              have hlen := HW.out.len.1
              have hm0 : ∃ z, (K.compact (xs.take (k + q)) ++ xs.drop m)[m]? = some z := get_of_lt (by omega)
              obtain ⟨z, ez⟩ := hm0
              have z0 := HW.out.str ez
              simp only [Nat.mul_one] at hset
              have HSET := Lib.hid hset
              clear e2 hc2 hset ez hlen
              go_wp2_with fail
              go_quiet (fail)
              go_wp2_with fail
              go_roundw
              case rel =>
                have e9 : (K.compact (xs.take (k + q)) ++ xs.drop m).set m u = K.compact (xs.take (k + (q + 1))) ++ xs.drop (m + 1) := by
                  rw [HC2.out, List.set_append_right _ _ (by have h9 := HM.out; omega), ← HM.out, Nat.sub_self, List.drop_eq_getElem_cons (show m < xs.length by omega), List.set_cons_zero, List.append_assoc, List.singleton_append]
                refine ⟨m + 1, q + 1, by go_num, by go_num, by omega, by omega, by omega, Lib.hid (by rw [HC2.out, List.length_append, ← HM.out]; rfl), Lib.hid ?_, Lib.hid (World.grownBy.trans HG.out (World.grownBy.trans (b := wr.drewN nq) ⟨rfl, rfl, rfl, by simp, fun _ _ _ => rfl⟩ (HSET.out nq).2))⟩
                rw [← e9]
                exact (HSET.out _).1
              case measure => simp [intOf]; omega
          · have hge : ¬ (q : Int) < ((xs.length - k : Nat) : Int) := by omega
            have hend := Lib.hid (show K.compact (xs.take (k + q)) = K.compact xs by rw [show k + q = xs.length by omega, List.take_length])
            obtain ⟨w2, hcl, ho2, hg2⟩ := run_clear_own' (P := Tryz.prog) (enc := encS) (k := 1) (fun _ => rfl) (by decide) HW.out 31 (.string ⟨#[]⟩) Tryz.underlying31 (fun w => by kernel_rfl) rfl (by decide) m (cap - m) (by omega)
            simp only [Nat.mul_one] at hcl
            have HO2 := Lib.hid ho2
            have HG2 := Lib.hid hg2
            clear ho2 hg2
            go_wp2_with fail
            go_ret
            refine ⟨_, rfl, ?_, World.grownBy.trans HG.out HG2.out, rfl⟩
            have h9 := HO2.out
            rw [List.take_append_of_le_length (by have h8 := HM.out; omega), hend.out, List.take_of_length_le (by rw [← hend.out]; have h8 := HM.out; omega)] at h9
            exact h9
      · rw [decide_eq_false e] at hq
        have hc1 : K.compact (xs.take (k + 1)) = xs.take (k + 1) := by
          rw [HS.out, if_neg (fun h => e h.symm), HT.out, List.take_add_one, EX.out]; rfl
        have HC1 := Lib.hid hc1
        clear e hc1
        go_wp2_with fail
        go_quiet (fail)
        go_wp2_with fail
        go_roundw
        case rel => exact ⟨k + 1, by omega, by omega, by go_num, HC1, _, rfl⟩
        case measure => simp [intOf]; omega
    · have hge : ¬ (k : Int) < (xs.length : Int) := by omega
      have HK := Lib.hid (show K.compact xs = xs by have := HT.out; rwa [List.take_of_length_le (by omega)] at this)
      have HO := Lib.hid hO
      clear hO HT
      go_wp2_with fail
      go_ret
      exact ⟨_, rfl, by rw [HK.out]; exact HO.out, ⟨rfl, rfl, rfl, by simp, fun _ _ _ => rfl⟩, rfl⟩
end Go.Proofs.YtpnobpnknlpjnaaGreatDoor

