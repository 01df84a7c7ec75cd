/- relation.Between, relation.Opposed. -/
import Derived.Test.YtpnobpnknlpjnaaGreatDoorNames
import Derived.Test.YtpnobpnknlpjnaaGreatDoorAppend
import Derived.Test.YtpnobpnknlpjnaaGreatDoorUnits
import Derived.BigRegion
set_option linter.unusedVariables false
set_option linter.unusedSimpArgs false
namespace Go.Proofs.YtpnobpnknlpjnaaGreatDoor
open Go Go.RowKit

/-- One element appended, laid into a block of its own. -/
theorem append_y {α : Type} (enc : α → List Value) (k : Nat) (hk : ∀ x, (enc x).length = k) (h1 : ∀ x, ∀ u ∈ enc x, u.oneCell' = true) (h0 : 0 < k)
    (t e : TypeId) (z : Value) (bytes : Nat) (ht : Tryz.prog.underlying t = some (.slice e)) (hinfo : (Tryz.prog.info? e).map (fun i => (i.zero, i.size, i.bytes)) = some (some z, k, bytes)) (hz : z.cells.size = k) (hb0 : 0 < bytes) (hb16 : bytes ≤ 64)
    (base : Nat) (W : World) (xs : List α) (y : α) (v : Value) (cs : Array Value) (hcs : cs = (enc y).toArray) (M : Nat) (hM : M = W.heap.size) (ho : Own enc k e base W v xs) (hb : base ≤ W.heap.size) (hl : xs.length ≤ 1000000) :
    ∃ v' w', (Builtin.append_ #[t, t] t #[v, .slice (some ⟨M, 0, none⟩) 1 1]).run Tryz.prog (W.alloc (.cells cs e)) = .ok v' w' ∧ (Own enc k e base w' v' (xs ++ [y]) ∧ Below base W w') := by
  subst hcs
  obtain ⟨v', w', hr, g1, g2, _⟩ := run_append_any (P := Tryz.prog) enc k hk h1 h0 base t t e z bytes ht hinfo hz hb0
    (W.alloc (.cells (enc y).toArray e)) v xs [y] (some ⟨M, 0, none⟩) 1 (.inr ⟨_, _, rfl⟩) (World.ownsRow.alloc ho _) (Rd.new enc _ [y] _ _ hM _ (by simp [flat]) (by simp)) (by simp; omega) (by
      have : (xs.length + [y].length) * bytes ≤ 1000001 * 64 := Nat.mul_le_mul (by simp; omega) hb16
      omega)
  exact ⟨v', w', hr, g1, ((Below.refl base W).alloc hb _).grown g2 (by simp; omega) (fun j hj => (ho.lt j hj).1)⟩
theorem infoI : (Tryz.prog.info? 3).map (fun i => (i.zero, i.size, i.bytes)) = some (some (.int .i64 0), 1, 8) := by kernel_rfl
theorem info2 : (Tryz.prog.info? 62).map (fun i => (i.zero, i.size, i.bytes)) = some (some (.agg #[.int .i64 0, .int .i64 0]), 2, 16) := by kernel_rfl

/-- The places below k at which f holds. -/
def placesTo (f : Rel → Bool) (xs : List Rel) : Nat → List Int
  | 0 => []
  | k + 1 => placesTo f xs k ++ match xs[k]? with
    | some x => if f x = true then [(k : Int)] else []
    | none => []
theorem placesTo_step {f : Rel → Bool} {xs : List Rel} {k : Nat} {x : Rel} (h : xs[k]? = some x) : placesTo f xs (k + 1) = placesTo f xs k ++ if f x = true then [(k : Int)] else [] := by
  rw [placesTo, h]
theorem placesTo_len (f : Rel → Bool) (xs : List Rel) : ∀ k, (placesTo f xs k).length ≤ k
  | 0 => by simp [placesTo]
  | k + 1 => by
    have := placesTo_len f xs k
    unfold placesTo
    split
    · split <;> simp <;> omega
    · simp; omega
def betwS (a b : ByteArray) (x : Rel) : Bool := (decide (x.2.1 = a) && decide (x.2.2 = b)) || (decide (x.2.1 = b) && decide (x.2.2 = a))
def betweenS (xs : List Rel) (a b : ByteArray) : List Int := placesTo (betwS a b) xs xs.length
theorem checkNames_len {xs : List Rel} {l : List ByteArray} (h : checkNamesS xs l = 0) : xs.length ≤ 200 ∧ checkAllS xs = 0 := by
  have h0 : checkAllS xs = 0 := by
    unfold checkNamesS at h
    by_cases hc : checkAllS xs = 0
    · exact hc
    · rw [if_neg hc] at h; exact absurd h hc
  refine ⟨?_, h0⟩
  rcases Nat.lt_or_ge 200 xs.length with h | h
  · simp [checkAllS, h] at h0
  · exact h

set_option maxRecDepth 10000 in
set_option maxHeartbeats 2000000 in
theorem between_lib (A : Option Addr) (c : Nat) (xs : List Rel) (a b : ByteArray) (w : World) (hx : Rd encR w A xs) (hn : ∀ x ∈ xs, x.2.1.size ≤ 9223372036854775807 ∧ x.2.2.size ≤ 9223372036854775807) (ha : a.size ≤ 9223372036854775807) (hb : b.size ≤ 9223372036854775807) :
    Calls Tryz.prog 12 #[.slice A xs.length c, .string a, .string b] w fun e w' => ∃ v, e = .returned (.tuple #[v, .int .i64 (checkNamesS xs [a, b])]) ∧ Own encI 1 3 w.heap.size w' v (if checkNamesS xs [a, b] = 0 then betweenS xs a b else []) ∧ Below w.heap.size w w' := by
  have hlx := hx.1
  have HN := Lib.hid hn
  have HX := Lib.hid hx
  have hab : ∀ s ∈ [a, b], s.size ≤ 9223372036854775807 := by simp [ha, hb]
  have HAB := Lib.hid hab
  clear hn hx hab ha hb
  by_cases hc : checkNamesS xs [a, b] = 0
  case neg =>
    have hne : (checkNamesS xs [a, b] != 0) = true := by simp [hc]
    rw [if_neg hc]
    clear hc
    go_enter Tryz.func12, Tryz.ntmps12
    go_wp2_with fail
    refine (checkNames_any A _ c 2 xs [a, b] _ (HX.out.alloc _) (Rd.new encS _ [a, b] _ _ rfl _ rfl (by simp)) HN.out HAB.out).mono ?_
    rintro e w1 ⟨rfl, hb1⟩
    have HB1 := Lib.hid (below_step ((Below.refl _ _).alloc (Nat.le_refl _) _) (by simp) hb1)
    clear hb1
    go_wp2_with fail
    go_ret2
    exact ⟨_, rfl, Own.nil _ _ _ _ _, HB1.out⟩
  have h200 := (checkNames_len hc).1
  rw [if_pos hc, hc]
  have HC := Lib.hid hc
  clear hc
  go_enter Tryz.func12, Tryz.ntmps12
  go_wp2_with fail
  refine (checkNames_any A _ c 2 xs [a, b] _ (HX.out.alloc _) (Rd.new encS _ [a, b] _ _ rfl _ rfl (by simp)) HN.out HAB.out).mono ?_
  rintro e w1 ⟨rfl, hb1⟩
  rw [HC.out]
  have HB1 := Lib.hid (below_step ((Below.refl _ _).alloc (Nat.le_refl _) _) (by simp) hb1)
  clear hb1
  go_wp2_with fail
  go_loopw [9, 22] (fun v i wr => ∃ k : Nat, k ≤ xs.length ∧ i = .int .i64 k ∧ Hid (Own encI 1 3 w.heap.size wr v (placesTo (betwS a b) xs k)) ∧ Hid (Below w.heap.size w wr)) (fun _ i _ => xs.length - (intOf i).toNat)
  case atStart => exact ⟨0, Nat.zero_le _, rfl, Lib.hid (Own.nil _ _ _ _ _), HB1⟩
  case round =>
    obtain ⟨k, hk, rfl, HW, HB⟩ := hrel
    by_cases hlt : k < xs.length
    · obtain ⟨x, ex⟩ := get_of_lt hlt
      obtain ⟨b0, o0, rfl, x0, x1, x2⟩ := (HX.out.below HB.out).rel ex
      have EX := Lib.hid (placesTo_step (f := betwS a b) ex)
      have HX' := HX
      clear ex HX
      have e1 : (x.2.1.toList == a.toList) = decide (x.2.1 = a) := K.beq_str _ _
      have e2 : (x.2.2.toList == b.toList) = decide (x.2.2 = b) := K.beq_str _ _
      have e3 : (x.2.1.toList == b.toList) = decide (x.2.1 = b) := K.beq_str _ _
      have e4 : (x.2.2.toList == a.toList) = decide (x.2.2 = a) := K.beq_str _ _
      have hf : betwS a b x = ((decide (x.2.1 = a) && decide (x.2.2 = b)) || (decide (x.2.1 = b) && decide (x.2.2 = a))) := rfl
      generalize decide (x.2.1 = a) = p1 at *
      generalize decide (x.2.2 = b) = p2 at *
      generalize decide (x.2.1 = b) = p3 at *
      generalize decide (x.2.2 = a) = p4 at *
      cases hfx : betwS a b x with
      | true =>
        have hrun := append_y encI 1 (fun _ => rfl) (fun x u hu => by simp [encI] at hu; subst hu; rfl) (by decide) 37 3 _ 8 Tryz.underlying37 infoI rfl (by decide) (by decide) w.heap.size (wr.alloc (.cells #[.int .i64 x.1, .string x.2.1, .string x.2.2] 25)) (placesTo (betwS a b) xs k) (k : Int) u9 #[.int .i64 k] rfl (wr.heap.size + 1) (by simp) (World.ownsRow.alloc HW.out _) (by have := HB.out.size; simp; omega) (by have := placesTo_len (betwS a b) xs k; omega)
        have HR := Lib.hid hrun
        rw [hfx, if_pos rfl] at EX
        rw [hf] at hfx
        clear hrun hf
        cases p1 <;> cases p2 <;> cases p3 <;> cases p4 <;> simp at hfx
        all_goals
          clear hfx
          go_wp2_with (at_builtin; go_must (refine wpList_append_run rfl (.tmp 49) (.tmp 51) 37 rfl _ _ rfl rfl HR.out ?_))
          intro v1 w2 ho hb2
          rw [← EX.out] at ho
          have HO := Lib.hid ho
          have HB2 := Lib.hid ((HB.out.alloc HB.out.size _).trans hb2)
          clear ho hb2 HR
          go_wp2_with fail
          go_roundw
          case rel => exact ⟨k + 1, by omega, by go_num, HO, HB2⟩
          case measure => simp [intOf]; omega
      | false =>
        rw [hfx, if_neg (by simp), List.append_nil] at EX
        rw [hf] at hfx
        clear hf
        cases p1 <;> cases p2 <;> cases p3 <;> cases p4 <;> simp at hfx
        all_goals
          try clear hfx
          go_wp2_with fail
          go_roundw
          case rel => exact ⟨k + 1, by omega, by go_num, Lib.hid (by rw [EX.out]; exact World.ownsRow.alloc HW.out _), Lib.hid (HB.out.alloc HB.out.size _)⟩
          case measure => simp [intOf]; omega
    · have hge : ¬ (k : Int) < (xs.length : Int) := by omega
      have hkl : k = xs.length := by omega
      have HW2 : Hid (Own encI 1 3 w.heap.size wr u9 (betweenS xs a b)) := Lib.hid (by unfold betweenS; rw [← hkl]; exact HW.out)
      clear HW hkl
      go_wp2_with fail
      go_ret2
      exact ⟨_, rfl, HW2.out, HB.out⟩
end Go.Proofs.YtpnobpnknlpjnaaGreatDoor
