/- relation.Without: slices.DeleteFunc with a function that has caught a name. -/
import Derived.Test.YtpnobpnknlpjnaaGreatDoorRenLaw
import Derived.Test.YtpnobpnknlpjnaaGreatDoorNormal
set_option linter.unusedVariables false
set_option linter.unusedSimpArgs false
namespace Go.Proofs.YtpnobpnknlpjnaaGreatDoor
open Go Go.RowKit

set_option maxRecDepth 10000 in
set_option maxHeartbeats 1000000 in
theorem has_any (x : Rel) (s : ByteArray) (u : Nat) (w : World) (hu : w.cell? ⟨u, 0, none⟩ = some (.string s)) :
    Calls Tryz.prog 32 #[.agg #[.int .i64 x.1, .string x.2.1, .string x.2.2], .pointer (some ⟨u, 0, none⟩)] w fun e w' => e = .returned (.bool (hasB s x)) ∧ Below w.heap.size w w' := by
  have c := below_cell ((Below.refl w.heap.size w).alloc (Nat.le_refl _) (.cells #[.int .i64 x.1, .string x.2.1, .string x.2.2] 25)) hu
  have e1 : (x.2.1.toList == s.toList) = decide (x.2.1 = s) := K.beq_str _ _
  have e2 : (x.2.2.toList == s.toList) = decide (x.2.2 = s) := K.beq_str _ _
  have hh : hasB s x = (decide (x.2.1 = s) || decide (x.2.2 = s)) := rfl
  rw [hh]
  clear hh hu
  generalize decide (x.2.1 = s) = p1 at *
  generalize decide (x.2.2 = s) = p2 at *
  cases p1
  · go_enter Tryz.func32, Tryz.ntmps32
    go_wp2_with fail
    go_ret
    exact ⟨rfl, (Below.refl _ _).alloc (Nat.le_refl _) _⟩
  · go_enter Tryz.func32, Tryz.ntmps32
    go_wp2_with fail
    go_ret
    exact ⟨rfl, (Below.refl _ _).alloc (Nat.le_refl _) _⟩

set_option maxRecDepth 10000 in
set_option maxHeartbeats 1000000 in
theorem hasAt (A : Option Addr) (c : Nat) (xs : List Rel) (s : ByteArray) (u : Nat) (w : World) (hx : Rd encR w A xs) (hu : w.cell? ⟨u, 0, none⟩ = some (.string s)) :
    Calls Tryz.prog 45 #[.slice A xs.length c, .func (.func 32) #[] #[.pointer (some ⟨u, 0, none⟩)]] w fun e w' => (∃ i : Int, e = .returned (.int .i64 i) ∧ ((i = -1 ∧ dropS s xs = xs) ∨ ∃ (k : Nat) (x : Rel), i = (k : Int) ∧ xs[k]? = some x ∧ hasB s x = true ∧ dropS s (xs.take k) = xs.take k)) ∧ Below w.heap.size w w' := by
  have hlx := hx.1
  have HX := Lib.hid hx
  have HU := Lib.hid hu
  clear hx hu
  go_enter Tryz.func45, Tryz.ntmps45
  go_wp2_with fail
  go_loopw [8] (fun i wr => ∃ k : Nat, k ≤ xs.length ∧ i = .int .i64 k ∧ Hid (dropS s (xs.take k) = xs.take k) ∧ Hid (Below w.heap.size w wr)) (fun i _ => xs.length - (intOf i).toNat)
  case atStart => exact ⟨0, Nat.zero_le _, rfl, Lib.hid rfl, Lib.hid (Below.refl _ _)⟩
  case round =>
    obtain ⟨k, hk, rfl, HT, HB⟩ := hrel
    by_cases hlt : k < xs.length
    · obtain ⟨x, ex⟩ := get_of_lt hlt
      obtain ⟨b0, o0, rfl, x0, x1, x2⟩ := (HX.out.below HB.out).rel ex
      have hcu := below_cell HB.out HU.out
      have HCU := Lib.hid hcu
      have EX := Lib.hid ex
      have HX' := HX
      clear ex HX hcu
      go_wp2_with fail
      refine (has_any x s u _ HCU.out).mono ?_
      rintro e w2 ⟨rfl, hb⟩
      have HB2 := Lib.hid (below_step HB.out HB.out.size hb)
      clear hb
      cases hn : hasB s x with
      | true =>
        have HN := Lib.hid hn
        clear hn
        go_wp2_with fail
        go_ret
        exact ⟨⟨_, rfl, .inr ⟨k, x, rfl, EX.out, HN.out, HT.out⟩⟩, HB2.out⟩
      | false =>
        have HN := Lib.hid hn
        clear hn
        go_wp2_with fail
        go_roundw
        case rel => exact ⟨k + 1, by omega, by go_num, Lib.hid (by rw [drop_step EX.out, HN.out, HT.out, List.take_add_one, EX.out]; rfl), HB2⟩
        case measure => simp [intOf]; omega
    · have hge : ¬ (k : Int) < (xs.length : Int) := by omega
      have HE := Lib.hid (show dropS s xs = xs by have := HT.out; rwa [List.take_of_length_le (by omega)] at this)
      clear HT
      go_wp2_with fail
      go_ret
      exact ⟨⟨_, rfl, .inl ⟨rfl, HE.out⟩⟩, HB.out⟩
theorem drop_len (s : ByteArray) (xs : List Rel) (k : Nat) : (dropS s (xs.take k)).length ≤ k := by
  unfold dropS
  refine Nat.le_trans (List.length_filter_le _ _) ?_
  rw [List.length_take]; omega

set_option maxRecDepth 10000 in
set_option maxHeartbeats 2000000 in
theorem delete_any (v : Value) (xs : List Rel) (s : ByteArray) (u base : Nat) (w : World) (hO : Own encR 3 25 base w v xs) (hu : w.cell? ⟨u, 0, none⟩ = some (.string s)) (hub : u < base) (hl : xs.length ≤ 1000000) :
    Calls Tryz.prog 31 #[v, .func (.func 32) #[] #[.pointer (some ⟨u, 0, none⟩)]] w fun e w' => ∃ v', e = .returned v' ∧ Own encR 3 25 base w' v' (dropS s xs) ∧ w.grownBy w' v.ownBlock ∧ v'.ownBlock = v.ownBlock := by
  obtain ⟨A, c, rfl, hrd, hA⟩ := hO.view (by omega)
  have HX := Lib.hid hrd
  have HU := Lib.hid hu
  have HO := Lib.hid hO
  clear hO hu hrd
  go_enter Tryz.func31, Tryz.ntmps31
  go_wp2_with fail
  refine (hasAt A c xs s u _ HX.out HU.out).mono ?_
  rintro e w1 ⟨⟨i, rfl, hi⟩, hb1⟩
  have hgr0 : w.grownBy w1 (Value.slice A xs.length c).ownBlock := ⟨hb1.os, hb1.tape, hb1.output, hb1.size, fun k hk _ => hb1.block k hk⟩
  have HG0 := Lib.hid hgr0
  have HO1 := Lib.hid (HO.out.below hb1)
  have HU1 := Lib.hid (below_cell hb1 HU.out)
  clear hb1 hgr0 HO HU HX
  rcases hi with ⟨rfl, hd⟩ | ⟨k0, x0, rfl, ex0, hh0, hd0⟩
  · have HD := Lib.hid hd
    clear hd
    go_wp2_with fail
    go_ret
    exact ⟨_, rfl, by rw [HD.out]; exact HO1.out, HG0.out, rfl⟩
  have hk0 := lt_of_get ex0
  rcases hA with rfl | ⟨g, o, rfl⟩
  · exfalso
    rcases HO1.out.2 with ⟨_, h1⟩ | ⟨_, _, _, h1, _⟩
    · omega
    · cases h1
  have ho0 : o = 0 := by
    rcases HO1.out.2 with ⟨h1, _⟩ | ⟨_, _, _, h1, _⟩
    · cases h1
    · injection h1 with h1 _ _; injection h1 with h1; injection h1
  subst ho0
  have hne1 : ((k0 : Int) == -1) = false := beq_eq_false_iff_ne.2 (by omega)
  have hugN : u ≠ g := fun e => by have := (HO1.out.lt g rfl).1; omega
  obtain ⟨_, hnc, hcm⟩ := HO1.out.len
  unfold maxLen at hcm
  have HD0 := Lib.hid hd0
  have HK1 := Lib.hid (show dropS s (xs.take (k0 + 1)) = xs.take k0 by rw [drop_step ex0, hh0, hd0]; simp)
  clear hd0 ex0 hh0
  go_wp2_with fail
  go_loopw [5, 6] (fun i j wr => ∃ (m q : Nat), i = .int .i64 m ∧ j = .int .i64 q ∧ q ≤ xs.length ∧ m + 1 ≤ q ∧ Hid (m = (dropS s (xs.take q)).length) ∧ Hid (Own encR 3 25 base wr (.slice (some ⟨g, 0, none⟩) xs.length c) (dropS s (xs.take q) ++ xs.drop m)) ∧ Hid (w.grownBy wr (some g)) ∧ Hid (wr.cell? ⟨u, 0, none⟩ = some (.string s))) (fun _ j _ => xs.length - (intOf j).toNat)
  case atStart =>
    refine ⟨k0, k0 + 1, rfl, by go_num, by omega, Nat.le_refl _, Lib.hid ?_, Lib.hid ?_, HG0, HU1⟩
    · rw [HK1.out]; simp; omega
    · rw [HK1.out, List.take_append_drop]; exact HO1.out
  case round =>
    obtain ⟨m, q, rfl, rfl, hq, hmq, HM, HW, HG, HUR⟩ := hrel
    by_cases hlt : q < xs.length
    · obtain ⟨x, ex⟩ := get_of_lt hlt
      have hz : (dropS s (xs.take q) ++ xs.drop m)[q]? = xs[q]? := by
        rw [List.getElem?_append_right (by have h9 := HM.out; omega), List.getElem?_drop, ← HM.out, show m + (q - m) = q by omega]
      obtain ⟨x0, x1, x2⟩ := HW.out.rel (hz.trans ex)
      have hstep := drop_step (u := s) ex
      have HST := Lib.hid hstep
      have hal := (Below.refl wr.heap.size wr).alloc (Nat.le_refl _) (.cells #[.int .i64 x.1, .string x.2.1, .string x.2.2] 25)
      have hcu := below_cell hal HUR.out
      have HCU := Lib.hid hcu
      clear ex hz hstep hal hcu
      go_wp2_with fail
      refine (has_any x s u _ HCU.out).mono ?_
      rintro e w2 ⟨rfl, hb⟩
      have c0 : w2.cell? ⟨wr.heap.size, 0, none⟩ = some (.int .i64 x.1) := below_cell hb (by simp)
      have c1 : w2.cell? ⟨wr.heap.size, 1, none⟩ = some (.string x.2.1) := below_cell hb (by simp)
      have c2 : w2.cell? ⟨wr.heap.size, 2, none⟩ = some (.string x.2.2) := below_cell hb (by simp)
      have hb' : Below wr.heap.size wr w2 := below_step ((Below.refl wr.heap.size wr).alloc (Nat.le_refl _) _) (by simp) hb
      have HW2 := Lib.hid (HW.out.below hb')
      have HU2 := Lib.hid (below_cell hb' HUR.out)
      have HG2 := Lib.hid (World.grownBy.trans HG.out ⟨hb'.os, hb'.tape, hb'.output, hb'.size, fun k hk _ => hb'.block k hk⟩)
      have hgN : g ≠ wr.heap.size := fun e => by have := (HW.out.lt g rfl).2; omega
      clear hb hb' x0 x1 x2 HW HG HUR HCU
      cases hn : hasB s x with
      | true =>
        rw [hn, if_pos rfl, List.append_nil] at HST
        clear hn c0 c1 c2
        go_wp2_with fail
        go_roundw
        case rel => exact ⟨m, q + 1, rfl, by go_num, by omega, by omega, Lib.hid (by rw [HST.out]; exact HM.out), Lib.hid (by rw [HST.out]; exact HW2.out), HG2, HU2⟩
        case measure => simp [intOf]; omega
      | false =>
        rw [hn, if_neg (by simp)] at HST
        clear hn
        have hset := own_set' (enc := encR) (k := 3) (w := w2) (fun _ => rfl) HW2.out m (by omega) x
        have hi0 := HW2.out.ice (m * 3)
        have hi1 := HW2.out.ice (m * 3 + 1)
        have hi2 := HW2.out.ice (m * 3 + 2)
        have hlen := HW2.out.len.1
        obtain ⟨z, ez⟩ : ∃ z, (dropS s (xs.take q) ++ xs.drop m)[m]? = some z := get_of_lt (by omega)
        obtain ⟨z0, z1, z2⟩ := HW2.out.rel ez
        have HSET := Lib.hid hset
        clear hset ez hlen
        go_wp2_with fail
        go_roundw
        case rel =>
          have e9 : (dropS s (xs.take q) ++ xs.drop m).set m x = dropS s (xs.take (q + 1)) ++ xs.drop (m + 1) := by
            rw [HST.out, List.set_append_right _ _ (by have h9 := HM.out; omega), ← HM.out, Nat.sub_self, List.drop_eq_getElem_cons (show m < xs.length by omega), List.set_cons_zero, List.append_assoc, List.singleton_append]
          refine ⟨m + 1, q + 1, by go_num, by go_num, by omega, by omega, Lib.hid (by rw [HST.out, List.length_append, ← HM.out]; rfl), Lib.hid ?_, Lib.hid (World.grownBy.trans HG2.out HSET.out.2), Lib.hid ?_⟩
          · rw [← e9]
            exact HSET.out.1
          · have := HSET.out.2.block u (World.block_lt_of_cell? w2 _ HU2.out) (fun e => hugN (by injection e))
            exact (World.cell?_of_block (a := ⟨u, 0, none⟩) this).trans HU2.out
        case measure => simp [intOf]; omega
    · have hge : ¬ (q : Int) < (xs.length : Int) := by omega
      have hend := Lib.hid (show dropS s (xs.take q) = dropS s xs by rw [show q = xs.length by omega, List.take_length])
      obtain ⟨w2, hcl, ho2, hg2⟩ := run_clear_own' (P := Tryz.prog) (enc := encR) (k := 3) (fun _ => rfl) (by decide) HW.out 22 (.agg #[.int .i64 0, .string ⟨#[]⟩, .string ⟨#[]⟩]) Tryz.underlying22 (fun w => by kernel_rfl) rfl (by decide) m (c - m) (by omega)
      have HO2 := Lib.hid ho2
      have HG2 := Lib.hid hg2
      clear ho2 hg2
      go_wp2_with fail
      go_ret
      refine ⟨_, rfl, ?_, World.grownBy.trans HG.out HG2.out, rfl⟩
      have h9 := HO2.out
      rw [List.take_append_of_le_length (by have h8 := HM.out; omega), hend.out, List.take_of_length_le (by rw [← hend.out]; have h8 := HM.out; omega)] at h9
      exact h9

set_option maxRecDepth 10000 in
set_option maxHeartbeats 2000000 in
theorem without_lib (A : Option Addr) (c : Nat) (xs : List Rel) (s : ByteArray) (w : World) (hx : Rd encR w A xs) (ha : A = none ∨ ∃ b o, A = some ⟨b, o, none⟩) (hn : ∀ x ∈ xs, x.2.1.size ≤ 9223372036854775807 ∧ x.2.2.size ≤ 9223372036854775807) (hs : s.size ≤ 9223372036854775807) :
    Calls Tryz.prog 15 #[.slice A xs.length c, .string s] w fun e w' => ∃ v, e = .returned (.tuple #[v, .int .i64 (checkNamesS xs [s])]) ∧ Own encR 3 25 w.heap.size w' v (if checkNamesS xs [s] = 0 then dropS s xs else []) ∧ Below w.heap.size w w' := by
  have hlx := hx.1
  have HN := Lib.hid hn
  have HX := Lib.hid hx
  have hab : ∀ t ∈ [s], t.size ≤ 9223372036854775807 := by simp [hs]
  have HAB := Lib.hid hab
  have HB0 := Lib.hid ((Below.refl w.heap.size w).alloc (Nat.le_refl _) (.cells #[.string s] 9))
  clear hn hx hab hs
  by_cases hc : checkNamesS xs [s] = 0
  case neg =>
    have hne : (checkNamesS xs [s] != 0) = true := by simp [hc]
    rw [if_neg hc]
    clear hc
    go_enter Tryz.func15, Tryz.ntmps15
    go_wp2_with fail
    refine (checkNames_any A _ c 1 xs [s] _ ((HX.out.alloc _).alloc _) (Rd.new encS _ [s] _ _ (by simp) _ rfl (by simp)) HN.out HAB.out).mono ?_
    rintro e w1 ⟨rfl, hb1⟩
    have HB1 := Lib.hid (below_step (HB0.out.alloc HB0.out.size _) (by simp; omega) hb1)
    clear hb1
    go_wp2_with fail
    go_ret2
    exact ⟨_, rfl, Own.nil _ _ _ _ _, HB1.out⟩
  have h200 : xs.length ≤ 200 := by
    have h1 : checkAllS xs = 0 := by
      unfold checkNamesS at hc
      by_cases h : checkAllS xs = 0
      · exact h
      · rw [if_neg h] at hc; exact absurd hc h
    rcases Nat.lt_or_ge 200 xs.length with h | h
    · simp [checkAllS, h] at h1
    · exact h
  rw [if_pos hc, hc]
  have HC := Lib.hid hc
  clear hc
  go_enter Tryz.func15, Tryz.ntmps15
  go_wp2_with fail
  refine (checkNames_any A _ c 1 xs [s] _ ((HX.out.alloc _).alloc _) (Rd.new encS _ [s] _ _ (by simp) _ rfl (by simp)) HN.out HAB.out).mono ?_
  rintro e w1 ⟨rfl, hb1⟩
  rw [HC.out]
  have hu1 : w1.cell? ⟨w.heap.size, 0, none⟩ = some (.string s) := below_cell hb1 (below_cell ((Below.refl _ _).alloc (Nat.le_refl _) _) (by simp))
  have hlt1 : w.heap.size < w1.heap.size := World.block_lt_of_cell? w1 _ hu1
  have HU1 := Lib.hid hu1
  have HB1 := Lib.hid (below_step (HB0.out.alloc HB0.out.size _) (by simp; omega) hb1)
  clear hb1 hu1
  go_wp2_with fail
  refine (clone_R A c xs _ (HX.out.below HB1.out) (by omega) ha).mono ?_
  rintro e w2 ⟨v, rfl, ho2, hb2⟩
  have HO2 := Lib.hid ho2
  have HU2 := Lib.hid (below_cell hb2 HU1.out)
  have HB2 := Lib.hid (below_step HB1.out HB1.out.size hb2)
  clear hb2 ho2
  go_wp2_with fail
  refine (delete_any v xs s w.heap.size w1.heap.size _ HO2.out HU2.out hlt1 (by omega)).mono ?_
  rintro e w3 ⟨v3, rfl, ho3, hg3, _⟩
  have HB3 := Lib.hid (HB2.out.grown hg3 HB2.out.size (fun j hj => by have := (HO2.out.lt j hj).1; omega))
  have HO3 := Lib.hid (World.ownsRow.mono ho3 HB1.out.size)
  clear ho3 hg3
  go_wp2_with fail
  go_ret2
  exact ⟨_, rfl, HO3.out, HB3.out⟩
end Go.Proofs.YtpnobpnknlpjnaaGreatDoor
