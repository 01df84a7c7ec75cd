/- relation.Opposed. -/
import Derived.Test.YtpnobpnknlpjnaaGreatDoorPairs
set_option linter.unusedVariables false
set_option linter.unusedSimpArgs false
namespace Go.Proofs.YtpnobpnknlpjnaaGreatDoor
open Go Go.RowKit

/-! ### Opposed -/
def oppB (x y : Rel) : Bool := decide (x.1 ≠ 4) && decide (y.1 ≠ 4) && decide (x.2.1 = y.2.2) && decide (x.2.2 = y.2.1)
/-- The pairs (i, j), j from i + 1 on below k. -/
def oppRow (xs : List Rel) (i : Nat) : Nat → List (Int × Int)
  | 0 => []
  | k + 1 => oppRow xs i k ++ if i < k then
      match xs[i]?, xs[k]? with
      | some x, some y => if oppB x y = true then [((i : Int), (k : Int))] else []
      | _, _ => []
    else []
def oppTo (xs : List Rel) : Nat → List (Int × Int)
  | 0 => []
  | i + 1 => oppTo xs i ++ oppRow xs i xs.length
def opposedS (xs : List Rel) : List (Int × Int) := oppTo xs xs.length
theorem oppRow_start (xs : List Rel) (i : Nat) : ∀ k, k ≤ i + 1 → oppRow xs i k = []
  | 0, _ => rfl
  | k + 1, h => by rw [oppRow, oppRow_start xs i k (by omega), if_neg (by omega)]; rfl
theorem oppRow_step {xs : List Rel} {i k : Nat} {x y : Rel} (hik : i < k) (hx : xs[i]? = some x) (hy : xs[k]? = some y) : oppRow xs i (k + 1) = oppRow xs i k ++ if oppB x y = true then [((i : Int), (k : Int))] else [] := by
  rw [oppRow, if_pos hik, hx, hy]
theorem oppRow_len (xs : List Rel) (i : Nat) : ∀ k, (oppRow xs i k).length ≤ k
  | 0 => by simp [oppRow]
  | k + 1 => by
    have := oppRow_len xs i k
    unfold oppRow
    split
    · split
      · split <;> simp <;> omega
      · simp; omega
    · simp; omega
theorem oppTo_len (xs : List Rel) : ∀ i, (oppTo xs i).length ≤ i * xs.length
  | 0 => by simp [oppTo]
  | i + 1 => by
    have := oppTo_len xs i
    have := oppRow_len xs i xs.length
    rw [oppTo, List.length_append, Nat.add_mul]; omega


/-- append_y, and where the new slice lies. -/
theorem append_yg {α : Type} (enc : α → List Value) (k : Nat) (hk : ∀ x, (enc x).length = k) (h1 : ∀ x, ∀ u ∈ enc x, u.oneCell' = true) (h0 : 0 < k)
    (t e : TypeId) (z : Value) (bytes : Nat) (ht : Tryz.prog.underlying t = some (.slice e)) (hinfo : (Tryz.prog.info? e).map (fun i => (i.zero, i.size, i.bytes)) = some (some z, k, bytes)) (hz : z.cells.size = k) (hb0 : 0 < bytes) (hb16 : bytes ≤ 64)
    (base : Nat) (W : World) (xs : List α) (y : α) (v : Value) (cs : Array Value) (hcs : cs = (enc y).toArray) (M : Nat) (hM : M = W.heap.size) (ho : Own enc k e base W v xs) (hb : base ≤ W.heap.size) (hl : xs.length ≤ 1000000) :
    ∃ v' w', (Builtin.append_ #[t, t] t #[v, .slice (some ⟨M, 0, none⟩) 1 1]).run Tryz.prog (W.alloc (.cells cs e)) = .ok v' w' ∧ (Own enc k e base w' v' (xs ++ [y]) ∧ Below base W w' ∧ W.grownBy w' v.ownBlock ∧ (v'.ownBlock = v.ownBlock ∨ ∃ q, v'.ownBlock = some q ∧ W.heap.size ≤ q)) := by
  subst hcs
  obtain ⟨v', w', hr, g1, g2, g3⟩ := run_append_any (P := Tryz.prog) enc k hk h1 h0 base t t e z bytes ht hinfo hz hb0
    (W.alloc (.cells (enc y).toArray e)) v xs [y] (some ⟨M, 0, none⟩) 1 (.inr ⟨_, _, rfl⟩) (World.ownsRow.alloc ho _) (Rd.new enc _ [y] _ _ hM _ (by simp [flat]) (by simp)) (by simp; omega) (by
      have : (xs.length + [y].length) * bytes ≤ 1000001 * 64 := Nat.mul_le_mul (by simp; omega) hb16
      omega)
  refine ⟨v', w', hr, g1, ((Below.refl base W).alloc hb _).grown g2 (by simp; omega) (fun j hj => (ho.lt j hj).1), World.grownBy.trans (World.grownBy_alloc W _ _) g2, ?_⟩
  rcases g3 with g3 | g3
  · exact .inl g3
  · exact .inr ⟨_, g3, by simp⟩


set_option maxRecDepth 10000 in
set_option maxHeartbeats 4000000 in
theorem opposed_lib (A : Option Addr) (c : Nat) (xs : List Rel) (w : World) (hx : Rd encR w A xs) (hn : ∀ x ∈ xs, x.2.1.size ≤ 9223372036854775807 ∧ x.2.2.size ≤ 9223372036854775807) :
    Calls Tryz.prog 13 #[.slice A xs.length c] w fun e w' => ∃ v, e = .returned (.tuple #[v, .int .i64 (checkAllS xs)]) ∧ Own enc2 2 62 w.heap.size w' v (if checkAllS xs = 0 then opposedS xs else []) ∧ Below w.heap.size w w' := by
  have hlx := hx.1
  have HN := Lib.hid hn
  have HX := Lib.hid hx
  clear hn hx
  by_cases hc : checkAllS xs = 0
  case neg =>
    have hne : (checkAllS xs != 0) = true := by simp [hc]
    rw [if_neg hc]
    clear hc
    go_enter Tryz.func13, Tryz.ntmps13
    go_wp2_with fail
    refine (checkAll_any A c xs _ HX.out HN.out).mono ?_
    rintro e w1 ⟨rfl, hb1⟩
    have HB1 := Lib.hid hb1
    clear hb1
    go_wp2_with fail
    go_ret2
    exact ⟨_, rfl, Own.nil _ _ _ _ _, HB1.out⟩
  have h200 : xs.length ≤ 200 := by
    rcases Nat.lt_or_ge 200 xs.length with h | h
    · simp [checkAllS, h] at hc
    · exact h
  rw [if_pos hc, hc]
  have HC := Lib.hid hc
  clear hc
  go_enter Tryz.func13, Tryz.ntmps13
  go_wp2_with fail
  refine (checkAll_any A c xs _ HX.out HN.out).mono ?_
  rintro e w1 ⟨rfl, hb1⟩
  rw [HC.out]
  have HB1 := Lib.hid hb1
  clear hb1
  go_wp2_with fail
  go_loopw [5, 17] (fun v i wr => ∃ k : Nat, k ≤ xs.length ∧ i = .int .i64 k ∧ Hid (Own enc2 2 62 w.heap.size wr v (oppTo xs k)) ∧ Hid (Below w.heap.size w wr)) (fun _ i _ => xs.length - (intOf i).toNat)
  case atStart => exact ⟨0, Nat.zero_le _, rfl, Lib.hid (Own.nil _ _ _ _ _), HB1⟩
  case round =>
    obtain ⟨i, hi, rfl, HW, HB⟩ := hrel
    by_cases hlt : i < xs.length
    · obtain ⟨x, ex⟩ := get_of_lt hlt
      obtain ⟨b0, o0, rfl, x0, x1, x2⟩ := (HX.out.below HB.out).rel ex
      have EX := Lib.hid ex
      clear ex
      go_wp2_with fail
      have c0 : (wr.alloc (.cells #[.int .i64 x.1, .string x.2.1, .string x.2.2] 25)).cell? ⟨wr.heap.size, 0, none⟩ = some (.int .i64 x.1) := by simp
      have c1 : (wr.alloc (.cells #[.int .i64 x.1, .string x.2.1, .string x.2.2] 25)).cell? ⟨wr.heap.size, 1, none⟩ = some (.string x.2.1) := by simp
      have c2 : (wr.alloc (.cells #[.int .i64 x.1, .string x.2.1, .string x.2.2] 25)).cell? ⟨wr.heap.size, 2, none⟩ = some (.string x.2.2) := by simp
      have HOW := Lib.hid (show Own enc2 2 62 w.heap.size (wr.alloc (.cells #[.int .i64 x.1, .string x.2.1, .string x.2.2] 25)) u5 (oppTo xs i) from World.ownsRow.alloc HW.out _)
      have HBW := Lib.hid (show Below w.heap.size w (wr.alloc (.cells #[.int .i64 x.1, .string x.2.1, .string x.2.2] 25)) from HB.out.alloc HB.out.size _)
      have hNb : w.heap.size ≤ wr.heap.size := HB.out.size
      have hNW : wr.heap.size < (wr.alloc (.cells #[.int .i64 x.1, .string x.2.1, .string x.2.2] 25)).heap.size := by simp
      have hNo : ∀ j, u5.ownBlock = some j → j ≠ wr.heap.size := fun j hj => by have := (HW.out.lt j hj).2; omega
      have HNO := Lib.hid hNo
      clear x0 x1 x2 HW HB hNo
      generalize wr.alloc (.cells #[.int .i64 x.1, .string x.2.1, .string x.2.2] 25) = W at c0 c1 c2 HOW HBW hNW ⊢
      generalize wr.heap.size = N at c0 c1 c2 hNb hNW HNO ⊢
      go_loopw [5, 8] (fun v j wi => ∃ k : Nat, i + 1 ≤ k ∧ k ≤ xs.length ∧ j = .int .i64 k ∧ Hid (Own enc2 2 62 w.heap.size wi v (oppTo xs i ++ oppRow xs i k)) ∧ Hid (Below w.heap.size w wi) ∧ Hid (N < wi.heap.size ∧ (∀ q, v.ownBlock = some q → q ≠ N) ∧ wi.cell? ⟨N, 0, none⟩ = some (.int .i64 x.1) ∧ wi.cell? ⟨N, 1, none⟩ = some (.string x.2.1) ∧ wi.cell? ⟨N, 2, none⟩ = some (.string x.2.2))) (fun _ j _ => xs.length - (intOf j).toNat)
      case atStart => exact ⟨i + 1, Nat.le_refl _, hlt, by go_num, Lib.hid (by rw [oppRow_start xs i (i + 1) (Nat.le_refl _), List.append_nil]; exact HOW.out), HBW, Lib.hid ⟨hNW, HNO.out, c0, c1, c2⟩⟩
      case round =>
        obtain ⟨k, hik, hk, rfl, HI, HBI, HCI⟩ := hrel
        obtain ⟨hNi, hNo2, g0, g1, g2⟩ := HCI.out
        have HNO2 := Lib.hid hNo2
        clear c0 c1 c2 hNW hNo2 HCI
        by_cases hlt2 : k < xs.length
        · obtain ⟨y, ey⟩ := get_of_lt hlt2
          obtain ⟨_, _, e, y0, y1, y2⟩ := (HX.out.below HBI.out).rel ey
          cases e
          have hst := oppRow_step (by omega) EX.out ey
          have HS := Lib.hid hst
          have e1 : (x.1 != 4) = decide (x.1 ≠ 4) := by by_cases h : x.1 = 4 <;> simp [h]
          have e2 : (y.1 != 4) = decide (y.1 ≠ 4) := by by_cases h : y.1 = 4 <;> simp [h]
          have e3 : (x.2.1.toList == y.2.2.toList) = decide (x.2.1 = y.2.2) := K.beq_str _ _
          have e4 : (x.2.2.toList == y.2.1.toList) = decide (x.2.2 = y.2.1) := K.beq_str _ _
          have hf : oppB x y = (decide (x.1 ≠ 4) && decide (y.1 ≠ 4) && decide (x.2.1 = y.2.2) && decide (x.2.2 = y.2.1)) := rfl
          clear ey hst
          generalize decide (x.1 ≠ 4) = p1 at e1 hf
          generalize decide (y.1 ≠ 4) = p2 at e2 hf
          generalize decide (x.2.1 = y.2.2) = p3 at e3 hf
          generalize decide (x.2.2 = y.2.1) = p4 at e4 hf
          have hal := (Below.refl wr.heap.size wr).alloc (Nat.le_refl _) (.cells #[.int .i64 y.1, .string y.2.1, .string y.2.2] 25)
          have q0 := below_cell hal g0
          have q1 := below_cell hal g1
          have q2 := below_cell hal g2
          clear hal
          cases hfx : oppB x y with
          | true =>
            have hrun := append_yg enc2 2 (fun _ => rfl) (fun x u hu => by simp [enc2] at hu; rcases hu with rfl | rfl <;> rfl) (by decide) 40 62 _ 16 Tryz.underlying40 info2 rfl (by decide) (by decide) w.heap.size (wr.alloc (.cells #[.int .i64 y.1, .string y.2.1, .string y.2.2] 25)) (oppTo xs i ++ oppRow xs i k) ((i : Int), (k : Int)) u5 #[.int .i64 i, .int .i64 k] rfl (wr.heap.size + 1) (by simp) (World.ownsRow.alloc HI.out _) (by have := HBI.out.size; simp; omega) (by
              have a1 := oppTo_len xs i
              have a2 := oppRow_len xs i k
              have a3 : i * xs.length ≤ 200 * 200 := Nat.mul_le_mul (by omega) (by omega)
              rw [List.length_append]; omega)
            have HR := Lib.hid hrun
            rw [hfx, if_pos rfl] at HS
            rw [hf] at hfx
            clear hrun hf
            cases p1 <;> cases p2 <;> cases p3 <;> cases p4 <;> simp at hfx
            all_goals
              try clear hfx
              go_wp2_with (at_builtin; go_must (refine wpList_append_run rfl (.tmp 56) (.tmp 60) 40 rfl _ _ rfl rfl HR.out ?_))
              intro v1 w2 ho hb2 hgr hat
              rw [← List.append_assoc] at ho
              rw [List.append_assoc, ← HS.out] at ho
              have HO2 := Lib.hid ho
              have HB2 := Lib.hid ((HBI.out.alloc HBI.out.size _).trans hb2)
              have hN2 : N < (wr.alloc (.cells #[.int .i64 y.1, .string y.2.1, .string y.2.2] 25)).heap.size := by simp; omega
              have hbk := hgr.block N hN2 (fun e => HNO2.out N e.symm rfl)
              have r0 := (World.cell?_of_block (a := ⟨N, 0, none⟩) hbk).trans q0
              have r1 := (World.cell?_of_block (a := ⟨N, 1, none⟩) hbk).trans q1
              have r2 := (World.cell?_of_block (a := ⟨N, 2, none⟩) hbk).trans q2
              have hsz : N < w2.heap.size := Nat.lt_of_lt_of_le hN2 hgr.size
              have hno : ∀ q, v1.ownBlock = some q → q ≠ N := by
                intro q hq
                rcases hat with hat | ⟨q', hat, hq'⟩
                · exact HNO2.out q (hat ▸ hq)
                · rw [hat] at hq
                  cases hq
                  omega
              have HC2 := Lib.hid (show N < w2.heap.size ∧ (∀ q, v1.ownBlock = some q → q ≠ N) ∧ w2.cell? ⟨N, 0, none⟩ = some (.int .i64 x.1) ∧ w2.cell? ⟨N, 1, none⟩ = some (.string x.2.1) ∧ w2.cell? ⟨N, 2, none⟩ = some (.string x.2.2) from ⟨hsz, hno, r0, r1, r2⟩)
              clear ho hb2 hgr hat hN2 hbk r0 r1 r2 hsz hno q0 q1 q2 g0 g1 g2
              go_wp2_with fail
              go_roundw
              case rel => exact ⟨k + 1, by omega, by omega, by go_num, HO2, HB2, HC2⟩
              case measure => simp [intOf]; omega
          | false =>
            rw [hfx, if_neg (by simp), List.append_nil] at HS
            rw [hf] at hfx
            clear hf
            cases p1 <;> cases p2 <;> cases p3 <;> cases p4 <;> simp at hfx
            all_goals
              try clear hfx
              go_wp2_with fail
              go_roundw
              case rel => exact ⟨k + 1, by omega, by omega, by go_num, Lib.hid (by rw [HS.out]; exact World.ownsRow.alloc HI.out _), Lib.hid (HBI.out.alloc HBI.out.size _), Lib.hid ⟨by simp; omega, HNO2.out, q0, q1, q2⟩⟩
              case measure => simp [intOf]; omega
        · have hge : ¬ (k : Int) < (xs.length : Int) := by omega
          have hkl : k = xs.length := by omega
          have HI2 : Hid (Own enc2 2 62 w.heap.size wr u5 (oppTo xs (i + 1))) := Lib.hid (by rw [oppTo, ← hkl]; exact HI.out)
          clear HI hkl
          go_wp2_with fail
          go_roundw
          case rel => exact ⟨i + 1, by omega, by go_num, HI2, HBI⟩
          case measure => simp [intOf]; omega
    · have hge : ¬ (i : Int) < (xs.length : Int) := by omega
      have hil : i = xs.length := by omega
      have HW2 : Hid (Own enc2 2 62 w.heap.size wr u5 (opposedS xs)) := Lib.hid (by unfold opposedS; rw [← hil]; exact HW.out)
      clear HW hil
      go_wp2_with fail
      go_ret2
      exact ⟨_, rfl, HW2.out, HB.out⟩

end Go.Proofs.YtpnobpnknlpjnaaGreatDoor
