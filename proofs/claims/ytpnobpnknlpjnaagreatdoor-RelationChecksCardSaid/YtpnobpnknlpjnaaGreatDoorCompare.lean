import Derived.Test.YtpnobpnknlpjnaaGreatDoorCmp
set_option linter.unusedVariables false
set_option linter.unusedSimpArgs false
namespace Go.Proofs.YtpnobpnknlpjnaaGreatDoor
open Go Go.RowKit Go.Sort
set_option maxRecDepth 10000 in
set_option maxHeartbeats 1000000 in
theorem compare_any (x y : Rel) (w : World) :
    Calls Tryz.prog 21 #[.agg #[.int .i64 x.1, .string x.2.1, .string x.2.2], .agg #[.int .i64 y.1, .string y.2.1, .string y.2.2]] w fun e w' => e = .returned (.int .i64 (cmpR x y)) ∧ ∃ q os', w' = grow (w.drewN q) os' := by
  obtain ⟨k1, u1, l1⟩ := x
  obtain ⟨k2, u2, l2⟩ := y
  simp only
  go_enter Tryz.func21, Tryz.ntmps21
  go_wp2_with fail
  refine wp_region_quiet_tail (C := fun w' => ∃ n, w' = World.drewN _ n) 15 (by kernel_rfl) (by kernel_rfl) ⟨1, rfl⟩ ?_
  simp only [List.take_succ_cons, List.take_zero, List.drop_succ_cons, List.drop_zero]
  repeat (first | go_big_quiet_step (first | exact Calls.quiet_of_same ((cmp_int _ _ _).mono fun _ _ h => ⟨h.1, h.2.symm⟩) | exact Calls.quiet_of_same ((cmp_str _ _ _).mono fun _ _ h => ⟨h.1, h.2.symm⟩)))
  refine wpQuiet_nil ?_
  intro w2 hw2
  obtain ⟨n, rfl⟩ := hw2
  go_wp2_with fail
  refine (or_any _ 3 [cmpI k1 k2, cmpS u1 u2, cmpS l1 l2] _ (Rd.new encI _ _ _ _ (by simp) _ rfl (by simp))).mono ?_
  rintro e w3 ⟨rfl, rfl⟩
  go_wp2_with fail
  go_ret
  exact ⟨rfl, n, _, by rw [alloc_eq_grow, alloc_eq_grow, alloc_eq_grow, grow_grow]; exact grow_grow (w.drewN n) _ _⟩
set_option maxRecDepth 10000 in
set_option maxHeartbeats 1000000 in
theorem compareA_any (x y : Arc) (w : World) :
    Calls Tryz.prog 26 #[.agg #[.string x.1, .string x.2], .agg #[.string y.1, .string y.2]] w fun e w' => e = .returned (.int .i64 (cmpA x y)) ∧ ∃ q os', w' = grow (w.drewN q) os' := by
  obtain ⟨u1, l1⟩ := x
  obtain ⟨u2, l2⟩ := y
  simp only
  go_enter Tryz.func26, Tryz.ntmps26
  go_wp2_with fail
  refine wp_region_quiet_tail (C := fun w' => ∃ n, w' = World.drewN _ n) 10 (by kernel_rfl) (by kernel_rfl) ⟨1, rfl⟩ ?_
  simp only [List.take_succ_cons, List.take_zero, List.drop_succ_cons, List.drop_zero]
  repeat (go_big_quiet_step (exact Calls.quiet_of_same ((cmp_str _ _ _).mono fun _ _ h => ⟨h.1, h.2.symm⟩)))
  refine wpQuiet_nil ?_
  intro w2 hw2
  obtain ⟨n, rfl⟩ := hw2
  go_wp2_with fail
  refine (or_any _ 2 [cmpS u1 u2, cmpS l1 l2] _ (Rd.new encI _ _ _ _ (by simp) _ rfl (by simp))).mono ?_
  rintro e w3 ⟨rfl, rfl⟩
  go_wp2_with fail
  go_ret
  exact ⟨rfl, n, _, by rw [alloc_eq_grow, alloc_eq_grow, alloc_eq_grow, grow_grow]; exact grow_grow (w.drewN n) _ _⟩
end Go.Proofs.YtpnobpnknlpjnaaGreatDoor
