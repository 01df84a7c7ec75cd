/- The statement about Parse, walked. -/
import Derived.Test.YtpnobpnknlpjnaaDoorKnown
import Derived.Test.YtpnobpnknlpjnaaDoorWordsLaw
import Derived.Test.YtpnobpnknlpjnaaDoorOpen
import Derived.Test.YtpnobpnknlpjnaaDoorEq
import Derived.Test.YtpnobpnknlpjnaaDoorUnit
import Derived.Deep.RegionHeld3
import Derived.BigRegion
set_option linter.unusedVariables false
set_option linter.unusedSimpArgs false
namespace Go.Proofs.YtpnobpnknlpjnaaDoor
open Go Go.RowKit

def kindTo (m : ByteArray) : Nat → Nat
  | 0 => 0
  | k + 1 => if k ≠ 0 ∧ m = wordS k then k else kindTo m k
theorem kindTo_le (m : ByteArray) : ∀ k, kindTo m k ≤ k
  | 0 => Nat.le_refl _
  | k + 1 => by have := kindTo_le m k; unfold kindTo; split <;> omega
theorem words_apart : ∀ i j : Nat, i < 5 → j < 5 → wordS i = wordS j → 1 ≤ i → 1 ≤ j → i = j := by
  intro i j hi hj
  rcases (show i = 0 ∨ i = 1 ∨ i = 2 ∨ i = 3 ∨ i = 4 by omega) with rfl | rfl | rfl | rfl | rfl <;> rcases (show j = 0 ∨ j = 1 ∨ j = 2 ∨ j = 3 ∨ j = 4 by omega) with rfl | rfl | rfl | rfl | rfl <;> (intro h; first | omega | (exact absurd h (by decide +kernel)))
theorem kind_idx (m : ByteArray) : Lib.idxOfS kindWords m = (kindTo m 5 : Int) - 1 := by
  by_cases h1 : m = wordS 1
  · subst h1; decide +kernel
  by_cases h2 : m = wordS 2
  · subst h2; decide +kernel
  by_cases h3 : m = wordS 3
  · subst h3; decide +kernel
  by_cases h4 : m = wordS 4
  · subst h4; decide +kernel
  have e : kindTo m 5 = 0 := by
    simp only [kindTo]
    rw [if_neg (by simp; exact h4), if_neg (by simp; exact h3), if_neg (by simp; exact h2), if_neg (by simp; exact h1)]
    simp
  rw [e]
  unfold Lib.idxOfS kindWords
  simp only [Lib.idxFromS]
  simp [Ne.symm h1, Ne.symm h2, Ne.symm h3, Ne.symm h4, h1, h2, h3, h4]
theorem kind_empty : kindTo ⟨#[]⟩ 5 = 0 := by decide +kernel
theorem contains_three (a m b : ByteArray) : Lib.containsS [a, m, b] ⟨#[]⟩ = true ↔ a = ⟨#[]⟩ ∨ m = ⟨#[]⟩ ∨ b = ⟨#[]⟩ := by
  rw [Lib.containsS_iff]
  simp only [List.mem_cons, List.not_mem_nil, or_false]
  constructor <;> (rintro (h | h | h) <;> simp [h])
theorem parseL_three (a m b : ByteArray) : parseL [a, m, b] = if Lib.containsS [a, m, b] ⟨#[]⟩ = true then (zeroR, 15) else if Lib.idxOfS kindWords m = -1 then (zeroR, 15) else if checkS (1 + Lib.idxOfS kindWords m, a, b) = 0 then ((1 + Lib.idxOfS kindWords m, a, b), 0) else (zeroR, checkS (1 + Lib.idxOfS kindWords m, a, b)) := rfl
theorem parse_none {a m b : ByteArray} (h : kindTo m 5 = 0 ∨ a = ⟨#[]⟩ ∨ b = ⟨#[]⟩) : parseL [a, m, b] = (zeroR, 15) := by
  rw [parseL_three]
  by_cases hc : Lib.containsS [a, m, b] ⟨#[]⟩ = true
  · rw [if_pos hc]
  · rw [if_neg hc]
    rw [contains_three] at hc
    have hk : kindTo m 5 = 0 := by
      rcases h with h | h | h
      · exact h
      · exact absurd (.inl h) hc
      · exact absurd (.inr (.inr h)) hc
    rw [kind_idx, hk]; rfl
theorem parse_some {a m b : ByteArray} (hk : kindTo m 5 ≠ 0) (ha : a ≠ ⟨#[]⟩) (hb : b ≠ ⟨#[]⟩) : parseL [a, m, b] = if checkS ((kindTo m 5 : Int), a, b) = 0 then (((kindTo m 5 : Int), a, b), 0) else (zeroR, checkS ((kindTo m 5 : Int), a, b)) := by
  rw [parseL_three]
  have hc : ¬ Lib.containsS [a, m, b] ⟨#[]⟩ = true := by
    rw [contains_three]
    rintro (h | h | h)
    · exact ha h
    · subst h; exact hk kind_empty
    · exact hb h
  rw [if_neg hc, kind_idx, if_neg (by omega), show (1 : Int) + ((kindTo m 5 : Int) - 1) = (kindTo m 5 : Int) by omega]

theorem empty_t {a : ByteArray} (h : (a.toList == (⟨#[]⟩ : ByteArray).toList) = true) : a.toList.isEmpty = true := by
  rw [K.beq_str] at h
  have : a = ⟨#[]⟩ := by simpa using h
  subst this; rw [Lib.toList_data]; rfl
theorem empty_p {a : ByteArray} (h : (a.toList == (⟨#[]⟩ : ByteArray).toList) = true) : a.toList = [] := by simpa using empty_t h
theorem empty_n {a : ByteArray} (h : (a.toList == (⟨#[]⟩ : ByteArray).toList) = false) : ¬ a.toList = [] := by
  intro e
  rw [e, Lib.toList_data] at h
  exact absurd h (by decide)
theorem empty_f {a : ByteArray} (h : (a.toList == (⟨#[]⟩ : ByteArray).toList) = false) : a.toList.isEmpty = false := by
  have := empty_n h
  cases hl : a.toList with
  | nil => exact absurd hl this
  | cons _ _ => rfl
set_option maxRecDepth 10000 in
set_option maxHeartbeats 8000000 in
theorem law_parses (s : ByteArray) (w : World) (hm : Mx w) (hs : s.size ≤ 9223372036854775807) :
    Calls Tryd.prog 4 #[.string s] w fun e w' => e = .returned (.bool true) ∧ Below w.heap.size w w' := by
  have HM := Lib.hid hm
  clear hm
  rcases Nat.lt_or_ge 100 s.size with hlen | hlen
  · have h12 : (100 : Int) < (s.size : Int) := by omega
    go_enter Tryd.func4, Tryd.ntmps4
    go_wp2_with fail
    refine (known_any _ HM.out).mono ?_
    rintro e w1 ⟨rfl, hb⟩
    have HB := Lib.hid hb
    clear hb
    go_wp2_with fail
    refine (known_any _ (HM.out.below HB.out HM.out.pos)).mono ?_
    rintro e w2 ⟨rfl, hb⟩
    have HB2 := Lib.hid (below_step HB.out HB.out.size hb)
    clear hb
    go_wp2_with fail
    go_ret
    exact ⟨rfl, HB2.out⟩
  have h12 : ¬ (100 : Int) < (s.size : Int) := by omega
  have hwl := words_len s
  have hwz := words_size s
  have HP := Lib.hid (show parseS s = parseL (wordsS s) from rfl)
  generalize hl : wordsS s = l at hwl hwz HP
  have HL := Lib.hid hl
  clear hl
  by_cases h3 : l.length = 3
  case neg =>
    rw [parseL_not h3] at HP
    unfold zeroR at HP
    have hb3 : ((l.length : Int) == 3) = false := by simp; omega
    clear h3 hwz
    go_enter Tryd.func4, Tryd.ntmps4
    go_wp2_with fail
    refine (known_any _ HM.out).mono ?_
    rintro e w1 ⟨rfl, hb⟩
    have HB := Lib.hid hb
    clear hb
    go_wp2_with fail
    refine (parse_any s _ (HM.out.below HB.out HM.out.pos) (by omega)).mono ?_
    rintro e w2 ⟨rfl, hb⟩
    rw [HP.out]
    skip
    have HB2 := Lib.hid (below_step HB.out HB.out.size hb)
    clear hb
    simp only
    go_wp2_with fail
    refine (words_law s _ (by omega)).mono ?_
    rintro e w3 ⟨v, rfl, ho, hb⟩
    rw [HL.out] at ho
    obtain ⟨B, c, rfl, hrd, _⟩ := ho.view (by omega)
    have X0 := rel_row (W := w3) (x := ((0, ⟨#[]⟩, ⟨#[]⟩) : Rel)) ((hb.block _ (by simp)).trans (heap_alloc_new w2 _))
    have HB3 := Lib.hid (below_step (HB2.out.alloc HB2.out.size _) (by have := HB2.out.size; simp; omega) hb)
    have HW := Lib.hid hrd
    clear ho hb hrd
    generalize w2.heap.size = X at X0 ⊢
    obtain ⟨⟨x0, x1, x2⟩, _⟩ := X0
    simp only at x0 x1 x2
    have hq : ∀ w, (binOp .eql 33 (.agg #[.int .i64 0, .string ⟨#[]⟩, .string ⟨#[]⟩]) (.agg #[.int .i64 0, .string ⟨#[]⟩, .string ⟨#[]⟩])).run Tryd.prog w = .ok (.bool true) w := eqlR (0, ⟨#[]⟩, ⟨#[]⟩) (0, ⟨#[]⟩, ⟨#[]⟩)
    go_wp2_with fail
    go_ret
    exact ⟨rfl, HB3.out⟩
  obtain ⟨a, m, b, rfl⟩ := three_of h3
  have hsa : a.size ≤ 9223372036854775807 := by have := hwz a (by simp); omega
  have hsb : b.size ≤ 9223372036854775807 := by have := hwz b (by simp); omega
  clear hwz h3
  by_cases hk : kindTo m 5 = 0
  · rw [parse_none (.inl hk)] at HP
    unfold zeroR at HP
    have HK0 := Lib.hid (show ((kindTo m 5 : Int) == 0) = true by simp [hk])
    clear hk
    go_enter Tryd.func4, Tryd.ntmps4
    go_wp2_with fail
    refine (known_any _ HM.out).mono ?_
    rintro e w1 ⟨rfl, hb⟩
    have HB := Lib.hid hb
    clear hb
    go_wp2_with fail
    refine (parse_any s _ (HM.out.below HB.out HM.out.pos) (by omega)).mono ?_
    rintro e w2 ⟨rfl, hb⟩
    rw [HP.out]
    skip
    have HB2 := Lib.hid (below_step HB.out HB.out.size hb)
    clear hb
    simp only
    go_wp2_with fail
    refine (words_law s _ (by omega)).mono ?_
    rintro e w3 ⟨v, rfl, ho, hb⟩
    rw [HL.out] at ho
    obtain ⟨B, c, rfl, hrd, _⟩ := ho.view (by omega)
    have X0 := rel_row (W := w3) (x := ((0, ⟨#[]⟩, ⟨#[]⟩) : Rel)) ((hb.block _ (by simp)).trans (heap_alloc_new w2 _))
    have HB3 := Lib.hid (below_step (HB2.out.alloc HB2.out.size _) (by have := HB2.out.size; simp; omega) hb)
    have HW := Lib.hid hrd
    clear ho hb hrd
    generalize w2.heap.size = X at X0 ⊢
    obtain ⟨⟨x0, x1, x2⟩, _⟩ := X0
    simp only at x0 x1 x2
    go_wp2_with fail
    obtain ⟨b1, o1, rfl, m1⟩ := HW.out.str (i := 1) rfl
    have hm1 : ∀ n, (w3.drewN n).cell? ⟨b1, o1 + 1, none⟩ = some (.string m) := fun n => by rw [World.cell?_drewN]; exact m1
    have HM1 := Lib.hid hm1
    clear hm1
    go_loopw [6, 7] (fun kd i wr => ∃ k : Nat, 1 ≤ k ∧ k ≤ 5 ∧ i = .int .i64 k ∧ kd = .int .i64 (kindTo m k) ∧ ∃ n, wr = w3.drewN n) (fun _ i _ => 5 - (intOf i).toNat)
    case atStart => exact ⟨1, Nat.le_refl _, by omega, rfl, by simp [kindTo], 0, rfl⟩
    case round =>
      obtain ⟨k, hk1, hk5, rfl, rfl, n, rfl⟩ := hrel
      rcases Nat.lt_or_ge k 5 with hlt | hge5
      · have hstep : kindTo m (k + 1) = if m = wordS k then k else kindTo m k := by
          rw [kindTo]
          by_cases h : m = wordS k
          · rw [if_pos ⟨by omega, h⟩, if_pos h]
          · rw [if_neg (fun c => h c.2), if_neg h]
        have hle : (k : Int) ≤ 4 := by omega
        have hlt3 : (1 : Int) < 3 := by omega
        have HST := Lib.hid hstep
        clear hstep x0 x1 x2
        have hq : (m.toList == (wordS k).toList) = decide (m = wordS k) := K.beq_str _ _
        by_cases he : m = wordS k
        · rw [decide_eq_true he] at hq
          rw [if_pos he] at HST
          have hwk : ∀ W, Calls Tryd.prog 18 #[.int .i64 (k : Int)] W fun e w' => e = .returned (.string (wordS k)) ∧ w' = W := fun W => (word_any (k : Int) W (by omega) (by omega)).mono fun _ _ h => ⟨h.1, h.2.symm⟩
          have HWK := Lib.hid hwk
          clear he hwk
          go_wp2_with fail
          go_quiet (exact (HWK.out _).mono fun _ _ h => ⟨h.1, _, h.2⟩)
          go_wp2_with fail
          go_roundw
          case rel => exact ⟨k + 1, by omega, by omega, by go_num, by rw [HST.out], _, rfl⟩
          case measure => simp [intOf]; omega
        · rw [decide_eq_false he] at hq
          rw [if_neg he] at HST
          have hwk : ∀ W, Calls Tryd.prog 18 #[.int .i64 (k : Int)] W fun e w' => e = .returned (.string (wordS k)) ∧ w' = W := fun W => (word_any (k : Int) W (by omega) (by omega)).mono fun _ _ h => ⟨h.1, h.2.symm⟩
          have HWK := Lib.hid hwk
          clear he hwk
          go_wp2_with fail
          go_quiet (exact (HWK.out _).mono fun _ _ h => ⟨h.1, _, h.2⟩)
          go_wp2_with fail
          go_roundw
          case rel => exact ⟨k + 1, by omega, by omega, by go_num, by rw [HST.out], _, rfl⟩
          case measure => simp [intOf]; omega
      · obtain rfl : k = 5 := by omega
        have hge : ¬ ((5 : Nat) : Int) ≤ 4 := by omega
        have HB4 : Hid (Below w.heap.size w (w3.drewN n)) := Lib.hid (below_drewN HB3.out n)
        have y0 : (w3.drewN n).cell? ⟨X, 0, none⟩ = some (.int .i64 (((0, ⟨#[]⟩, ⟨#[]⟩) : Rel)).1) := by rw [World.cell?_drewN]; exact x0
        have y1 : (w3.drewN n).cell? ⟨X, 1, none⟩ = some (.string (((0, ⟨#[]⟩, ⟨#[]⟩) : Rel)).2.1) := by rw [World.cell?_drewN]; exact x1
        have y2 : (w3.drewN n).cell? ⟨X, 2, none⟩ = some (.string (((0, ⟨#[]⟩, ⟨#[]⟩) : Rel)).2.2) := by rw [World.cell?_drewN]; exact x2
        have HV := Lib.hid (HW.out.drew n)
        obtain ⟨_, _, e0, g0⟩ := HV.out.str (i := 0) rfl
        cases e0
        obtain ⟨_, _, e2, g2⟩ := HV.out.str (i := 2) rfl
        cases e2
        simp only [Nat.add_zero] at g0
        simp only at y0 y1 y2
        clear x0 x1 x2 m1 HW hge
        generalize w3.drewN n = W at y0 y1 y2 g0 g2 HB4 HV ⊢
        have hq : ∀ w, (binOp .eql 33 (.agg #[.int .i64 0, .string ⟨#[]⟩, .string ⟨#[]⟩]) (.agg #[.int .i64 0, .string ⟨#[]⟩, .string ⟨#[]⟩])).run Tryd.prog w = .ok (.bool true) w := eqlR (0, ⟨#[]⟩, ⟨#[]⟩) (0, ⟨#[]⟩, ⟨#[]⟩)
        have hk0 : ((kindTo m 5 : Int) == 0) = true := HK0.out
        go_wp2_with fail
        go_ret
        exact ⟨rfl, HB4.out⟩
  have HK0 := Lib.hid (show ((kindTo m 5 : Int) == 0) = false by simp [hk])
  by_cases ha : a = ⟨#[]⟩
  · rw [parse_none (.inr (.inl ha))] at HP
    unfold zeroR at HP
    have HA0 := Lib.hid (show (a.toList == (⟨#[]⟩ : ByteArray).toList) = true by rw [K.beq_str]; simp [ha])
    clear hk ha
    go_enter Tryd.func4, Tryd.ntmps4
    go_wp2_with fail
    refine (known_any _ HM.out).mono ?_
    rintro e w1 ⟨rfl, hb⟩
    have HB := Lib.hid hb
    clear hb
    go_wp2_with fail
    refine (parse_any s _ (HM.out.below HB.out HM.out.pos) (by omega)).mono ?_
    rintro e w2 ⟨rfl, hb⟩
    rw [HP.out]
    skip
    have HB2 := Lib.hid (below_step HB.out HB.out.size hb)
    clear hb
    simp only
    go_wp2_with fail
    refine (words_law s _ (by omega)).mono ?_
    rintro e w3 ⟨v, rfl, ho, hb⟩
    rw [HL.out] at ho
    obtain ⟨B, c, rfl, hrd, _⟩ := ho.view (by omega)
    have X0 := rel_row (W := w3) (x := ((0, ⟨#[]⟩, ⟨#[]⟩) : Rel)) ((hb.block _ (by simp)).trans (heap_alloc_new w2 _))
    have HB3 := Lib.hid (below_step (HB2.out.alloc HB2.out.size _) (by have := HB2.out.size; simp; omega) hb)
    have HW := Lib.hid hrd
    clear ho hb hrd
    generalize w2.heap.size = X at X0 ⊢
    obtain ⟨⟨x0, x1, x2⟩, _⟩ := X0
    simp only at x0 x1 x2
    go_wp2_with fail
    obtain ⟨b1, o1, rfl, m1⟩ := HW.out.str (i := 1) rfl
    have hm1 : ∀ n, (w3.drewN n).cell? ⟨b1, o1 + 1, none⟩ = some (.string m) := fun n => by rw [World.cell?_drewN]; exact m1
    have HM1 := Lib.hid hm1
    clear hm1
    go_loopw [6, 7] (fun kd i wr => ∃ k : Nat, 1 ≤ k ∧ k ≤ 5 ∧ i = .int .i64 k ∧ kd = .int .i64 (kindTo m k) ∧ ∃ n, wr = w3.drewN n) (fun _ i _ => 5 - (intOf i).toNat)
    case atStart => exact ⟨1, Nat.le_refl _, by omega, rfl, by simp [kindTo], 0, rfl⟩
    case round =>
      obtain ⟨k, hk1, hk5, rfl, rfl, n, rfl⟩ := hrel
      rcases Nat.lt_or_ge k 5 with hlt | hge5
      · have hstep : kindTo m (k + 1) = if m = wordS k then k else kindTo m k := by
          rw [kindTo]
          by_cases h : m = wordS k
          · rw [if_pos ⟨by omega, h⟩, if_pos h]
          · rw [if_neg (fun c => h c.2), if_neg h]
        have hle : (k : Int) ≤ 4 := by omega
        have hlt3 : (1 : Int) < 3 := by omega
        have HST := Lib.hid hstep
        clear hstep x0 x1 x2
        have hq : (m.toList == (wordS k).toList) = decide (m = wordS k) := K.beq_str _ _
        by_cases he : m = wordS k
        · rw [decide_eq_true he] at hq
          rw [if_pos he] at HST
          have hwk : ∀ W, Calls Tryd.prog 18 #[.int .i64 (k : Int)] W fun e w' => e = .returned (.string (wordS k)) ∧ w' = W := fun W => (word_any (k : Int) W (by omega) (by omega)).mono fun _ _ h => ⟨h.1, h.2.symm⟩
          have HWK := Lib.hid hwk
          clear he hwk
          go_wp2_with fail
          go_quiet (exact (HWK.out _).mono fun _ _ h => ⟨h.1, _, h.2⟩)
          go_wp2_with fail
          go_roundw
          case rel => exact ⟨k + 1, by omega, by omega, by go_num, by rw [HST.out], _, rfl⟩
          case measure => simp [intOf]; omega
        · rw [decide_eq_false he] at hq
          rw [if_neg he] at HST
          have hwk : ∀ W, Calls Tryd.prog 18 #[.int .i64 (k : Int)] W fun e w' => e = .returned (.string (wordS k)) ∧ w' = W := fun W => (word_any (k : Int) W (by omega) (by omega)).mono fun _ _ h => ⟨h.1, h.2.symm⟩
          have HWK := Lib.hid hwk
          clear he hwk
          go_wp2_with fail
          go_quiet (exact (HWK.out _).mono fun _ _ h => ⟨h.1, _, h.2⟩)
          go_wp2_with fail
          go_roundw
          case rel => exact ⟨k + 1, by omega, by omega, by go_num, by rw [HST.out], _, rfl⟩
          case measure => simp [intOf]; omega
      · obtain rfl : k = 5 := by omega
        have hge : ¬ ((5 : Nat) : Int) ≤ 4 := by omega
        have HB4 : Hid (Below w.heap.size w (w3.drewN n)) := Lib.hid (below_drewN HB3.out n)
        have y0 : (w3.drewN n).cell? ⟨X, 0, none⟩ = some (.int .i64 (((0, ⟨#[]⟩, ⟨#[]⟩) : Rel)).1) := by rw [World.cell?_drewN]; exact x0
        have y1 : (w3.drewN n).cell? ⟨X, 1, none⟩ = some (.string (((0, ⟨#[]⟩, ⟨#[]⟩) : Rel)).2.1) := by rw [World.cell?_drewN]; exact x1
        have y2 : (w3.drewN n).cell? ⟨X, 2, none⟩ = some (.string (((0, ⟨#[]⟩, ⟨#[]⟩) : Rel)).2.2) := by rw [World.cell?_drewN]; exact x2
        have HV := Lib.hid (HW.out.drew n)
        obtain ⟨_, _, e0, g0⟩ := HV.out.str (i := 0) rfl
        cases e0
        obtain ⟨_, _, e2, g2⟩ := HV.out.str (i := 2) rfl
        cases e2
        simp only [Nat.add_zero] at g0
        simp only at y0 y1 y2
        clear x0 x1 x2 m1 HW hge
        generalize w3.drewN n = W at y0 y1 y2 g0 g2 HB4 HV ⊢
        have hq : ∀ w, (binOp .eql 33 (.agg #[.int .i64 0, .string ⟨#[]⟩, .string ⟨#[]⟩]) (.agg #[.int .i64 0, .string ⟨#[]⟩, .string ⟨#[]⟩])).run Tryd.prog w = .ok (.bool true) w := eqlR (0, ⟨#[]⟩, ⟨#[]⟩) (0, ⟨#[]⟩, ⟨#[]⟩)
        have hk0 : ((kindTo m 5 : Int) == 0) = false := HK0.out
        have ha0 : a.toList.isEmpty = true := empty_t HA0.out
        have ha0' : a.toList = [] := empty_p HA0.out
        go_wp2_with fail
        go_ret
        exact ⟨rfl, HB4.out⟩
  have HA0 := Lib.hid (show (a.toList == (⟨#[]⟩ : ByteArray).toList) = false by rw [K.beq_str]; simp [ha])
  by_cases hb : b = ⟨#[]⟩
  · rw [parse_none (.inr (.inr hb))] at HP
    unfold zeroR at HP
    have HB0 := Lib.hid (show (b.toList == (⟨#[]⟩ : ByteArray).toList) = true by rw [K.beq_str]; simp [hb])
    clear hk ha hb
    go_enter Tryd.func4, Tryd.ntmps4
    go_wp2_with fail
    refine (known_any _ HM.out).mono ?_
    rintro e w1 ⟨rfl, hb⟩
    have HB := Lib.hid hb
    clear hb
    go_wp2_with fail
    refine (parse_any s _ (HM.out.below HB.out HM.out.pos) (by omega)).mono ?_
    rintro e w2 ⟨rfl, hb⟩
    rw [HP.out]
    skip
    have HB2 := Lib.hid (below_step HB.out HB.out.size hb)
    clear hb
    simp only
    go_wp2_with fail
    refine (words_law s _ (by omega)).mono ?_
    rintro e w3 ⟨v, rfl, ho, hb⟩
    rw [HL.out] at ho
    obtain ⟨B, c, rfl, hrd, _⟩ := ho.view (by omega)
    have X0 := rel_row (W := w3) (x := ((0, ⟨#[]⟩, ⟨#[]⟩) : Rel)) ((hb.block _ (by simp)).trans (heap_alloc_new w2 _))
    have HB3 := Lib.hid (below_step (HB2.out.alloc HB2.out.size _) (by have := HB2.out.size; simp; omega) hb)
    have HW := Lib.hid hrd
    clear ho hb hrd
    generalize w2.heap.size = X at X0 ⊢
    obtain ⟨⟨x0, x1, x2⟩, _⟩ := X0
    simp only at x0 x1 x2
    go_wp2_with fail
    obtain ⟨b1, o1, rfl, m1⟩ := HW.out.str (i := 1) rfl
    have hm1 : ∀ n, (w3.drewN n).cell? ⟨b1, o1 + 1, none⟩ = some (.string m) := fun n => by rw [World.cell?_drewN]; exact m1
    have HM1 := Lib.hid hm1
    clear hm1
    go_loopw [6, 7] (fun kd i wr => ∃ k : Nat, 1 ≤ k ∧ k ≤ 5 ∧ i = .int .i64 k ∧ kd = .int .i64 (kindTo m k) ∧ ∃ n, wr = w3.drewN n) (fun _ i _ => 5 - (intOf i).toNat)
    case atStart => exact ⟨1, Nat.le_refl _, by omega, rfl, by simp [kindTo], 0, rfl⟩
    case round =>
      obtain ⟨k, hk1, hk5, rfl, rfl, n, rfl⟩ := hrel
      rcases Nat.lt_or_ge k 5 with hlt | hge5
      · have hstep : kindTo m (k + 1) = if m = wordS k then k else kindTo m k := by
          rw [kindTo]
          by_cases h : m = wordS k
          · rw [if_pos ⟨by omega, h⟩, if_pos h]
          · rw [if_neg (fun c => h c.2), if_neg h]
        have hle : (k : Int) ≤ 4 := by omega
        have hlt3 : (1 : Int) < 3 := by omega
        have HST := Lib.hid hstep
        clear hstep x0 x1 x2
        have hq : (m.toList == (wordS k).toList) = decide (m = wordS k) := K.beq_str _ _
        by_cases he : m = wordS k
        · rw [decide_eq_true he] at hq
          rw [if_pos he] at HST
          have hwk : ∀ W, Calls Tryd.prog 18 #[.int .i64 (k : Int)] W fun e w' => e = .returned (.string (wordS k)) ∧ w' = W := fun W => (word_any (k : Int) W (by omega) (by omega)).mono fun _ _ h => ⟨h.1, h.2.symm⟩
          have HWK := Lib.hid hwk
          clear he hwk
          go_wp2_with fail
          go_quiet (exact (HWK.out _).mono fun _ _ h => ⟨h.1, _, h.2⟩)
          go_wp2_with fail
          go_roundw
          case rel => exact ⟨k + 1, by omega, by omega, by go_num, by rw [HST.out], _, rfl⟩
          case measure => simp [intOf]; omega
        · rw [decide_eq_false he] at hq
          rw [if_neg he] at HST
          have hwk : ∀ W, Calls Tryd.prog 18 #[.int .i64 (k : Int)] W fun e w' => e = .returned (.string (wordS k)) ∧ w' = W := fun W => (word_any (k : Int) W (by omega) (by omega)).mono fun _ _ h => ⟨h.1, h.2.symm⟩
          have HWK := Lib.hid hwk
          clear he hwk
          go_wp2_with fail
          go_quiet (exact (HWK.out _).mono fun _ _ h => ⟨h.1, _, h.2⟩)
          go_wp2_with fail
          go_roundw
          case rel => exact ⟨k + 1, by omega, by omega, by go_num, by rw [HST.out], _, rfl⟩
          case measure => simp [intOf]; omega
      · obtain rfl : k = 5 := by omega
        have hge : ¬ ((5 : Nat) : Int) ≤ 4 := by omega
        have HB4 : Hid (Below w.heap.size w (w3.drewN n)) := Lib.hid (below_drewN HB3.out n)
        have y0 : (w3.drewN n).cell? ⟨X, 0, none⟩ = some (.int .i64 (((0, ⟨#[]⟩, ⟨#[]⟩) : Rel)).1) := by rw [World.cell?_drewN]; exact x0
        have y1 : (w3.drewN n).cell? ⟨X, 1, none⟩ = some (.string (((0, ⟨#[]⟩, ⟨#[]⟩) : Rel)).2.1) := by rw [World.cell?_drewN]; exact x1
        have y2 : (w3.drewN n).cell? ⟨X, 2, none⟩ = some (.string (((0, ⟨#[]⟩, ⟨#[]⟩) : Rel)).2.2) := by rw [World.cell?_drewN]; exact x2
        have HV := Lib.hid (HW.out.drew n)
        obtain ⟨_, _, e0, g0⟩ := HV.out.str (i := 0) rfl
        cases e0
        obtain ⟨_, _, e2, g2⟩ := HV.out.str (i := 2) rfl
        cases e2
        simp only [Nat.add_zero] at g0
        simp only at y0 y1 y2
        clear x0 x1 x2 m1 HW hge
        generalize w3.drewN n = W at y0 y1 y2 g0 g2 HB4 HV ⊢
        have hq : ∀ w, (binOp .eql 33 (.agg #[.int .i64 0, .string ⟨#[]⟩, .string ⟨#[]⟩]) (.agg #[.int .i64 0, .string ⟨#[]⟩, .string ⟨#[]⟩])).run Tryd.prog w = .ok (.bool true) w := eqlR (0, ⟨#[]⟩, ⟨#[]⟩) (0, ⟨#[]⟩, ⟨#[]⟩)
        have hk0 : ((kindTo m 5 : Int) == 0) = false := HK0.out
        have ha0 : a.toList.isEmpty = false := empty_f HA0.out
        have ha0' : ¬ a.toList = [] := empty_n HA0.out
        have hb0 : b.toList.isEmpty = true := empty_t HB0.out
        have hb0' : b.toList = [] := empty_p HB0.out
        go_wp2_with fail
        go_ret
        exact ⟨rfl, HB4.out⟩
  have HB0 := Lib.hid (show (b.toList == (⟨#[]⟩ : ByteArray).toList) = false by rw [K.beq_str]; simp [hb])
  rw [parse_some hk ha hb] at HP
  clear hk ha hb
  by_cases hch : checkS ((kindTo m 5 : Int), a, b) = 0
  · rw [if_pos hch] at HP
    have HCH := Lib.hid hch
    clear hch
    go_enter Tryd.func4, Tryd.ntmps4
    go_wp2_with fail
    refine (known_any _ HM.out).mono ?_
    rintro e w1 ⟨rfl, hb⟩
    have HB := Lib.hid hb
    clear hb
    go_wp2_with fail
    refine (parse_any s _ (HM.out.below HB.out HM.out.pos) (by omega)).mono ?_
    rintro e w2 ⟨rfl, hb⟩
    rw [HP.out]
    skip
    have HB2 := Lib.hid (below_step HB.out HB.out.size hb)
    clear hb
    simp only
    go_wp2_with fail
    refine (words_law s _ (by omega)).mono ?_
    rintro e w3 ⟨v, rfl, ho, hb⟩
    rw [HL.out] at ho
    obtain ⟨B, c, rfl, hrd, _⟩ := ho.view (by omega)
    have X0 := rel_row (W := w3) (x := ((kindTo m 5 : Int), a, b)) ((hb.block _ (by simp)).trans (heap_alloc_new w2 _))
    have HB3 := Lib.hid (below_step (HB2.out.alloc HB2.out.size _) (by have := HB2.out.size; simp; omega) hb)
    have HW := Lib.hid hrd
    clear ho hb hrd
    generalize w2.heap.size = X at X0 ⊢
    obtain ⟨⟨x0, x1, x2⟩, _⟩ := X0
    simp only at x0 x1 x2
    go_wp2_with fail
    obtain ⟨b1, o1, rfl, m1⟩ := HW.out.str (i := 1) rfl
    have hm1 : ∀ n, (w3.drewN n).cell? ⟨b1, o1 + 1, none⟩ = some (.string m) := fun n => by rw [World.cell?_drewN]; exact m1
    have HM1 := Lib.hid hm1
    clear hm1
    go_loopw [6, 7] (fun kd i wr => ∃ k : Nat, 1 ≤ k ∧ k ≤ 5 ∧ i = .int .i64 k ∧ kd = .int .i64 (kindTo m k) ∧ ∃ n, wr = w3.drewN n) (fun _ i _ => 5 - (intOf i).toNat)
    case atStart => exact ⟨1, Nat.le_refl _, by omega, rfl, by simp [kindTo], 0, rfl⟩
    case round =>
      obtain ⟨k, hk1, hk5, rfl, rfl, n, rfl⟩ := hrel
      rcases Nat.lt_or_ge k 5 with hlt | hge5
      · have hstep : kindTo m (k + 1) = if m = wordS k then k else kindTo m k := by
          rw [kindTo]
          by_cases h : m = wordS k
          · rw [if_pos ⟨by omega, h⟩, if_pos h]
          · rw [if_neg (fun c => h c.2), if_neg h]
        have hle : (k : Int) ≤ 4 := by omega
        have hlt3 : (1 : Int) < 3 := by omega
        have HST := Lib.hid hstep
        clear hstep x0 x1 x2
        have hq : (m.toList == (wordS k).toList) = decide (m = wordS k) := K.beq_str _ _
        by_cases he : m = wordS k
        · rw [decide_eq_true he] at hq
          rw [if_pos he] at HST
          have hwk : ∀ W, Calls Tryd.prog 18 #[.int .i64 (k : Int)] W fun e w' => e = .returned (.string (wordS k)) ∧ w' = W := fun W => (word_any (k : Int) W (by omega) (by omega)).mono fun _ _ h => ⟨h.1, h.2.symm⟩
          have HWK := Lib.hid hwk
          clear he hwk
          go_wp2_with fail
          go_quiet (exact (HWK.out _).mono fun _ _ h => ⟨h.1, _, h.2⟩)
          go_wp2_with fail
          go_roundw
          case rel => exact ⟨k + 1, by omega, by omega, by go_num, by rw [HST.out], _, rfl⟩
          case measure => simp [intOf]; omega
        · rw [decide_eq_false he] at hq
          rw [if_neg he] at HST
          have hwk : ∀ W, Calls Tryd.prog 18 #[.int .i64 (k : Int)] W fun e w' => e = .returned (.string (wordS k)) ∧ w' = W := fun W => (word_any (k : Int) W (by omega) (by omega)).mono fun _ _ h => ⟨h.1, h.2.symm⟩
          have HWK := Lib.hid hwk
          clear he hwk
          go_wp2_with fail
          go_quiet (exact (HWK.out _).mono fun _ _ h => ⟨h.1, _, h.2⟩)
          go_wp2_with fail
          go_roundw
          case rel => exact ⟨k + 1, by omega, by omega, by go_num, by rw [HST.out], _, rfl⟩
          case measure => simp [intOf]; omega
      · obtain rfl : k = 5 := by omega
        have hge : ¬ ((5 : Nat) : Int) ≤ 4 := by omega
        have HB4 : Hid (Below w.heap.size w (w3.drewN n)) := Lib.hid (below_drewN HB3.out n)
        have y0 : (w3.drewN n).cell? ⟨X, 0, none⟩ = some (.int .i64 (((kindTo m 5 : Int), a, b)).1) := by rw [World.cell?_drewN]; exact x0
        have y1 : (w3.drewN n).cell? ⟨X, 1, none⟩ = some (.string (((kindTo m 5 : Int), a, b)).2.1) := by rw [World.cell?_drewN]; exact x1
        have y2 : (w3.drewN n).cell? ⟨X, 2, none⟩ = some (.string (((kindTo m 5 : Int), a, b)).2.2) := by rw [World.cell?_drewN]; exact x2
        have HV := Lib.hid (HW.out.drew n)
        obtain ⟨_, _, e0, g0⟩ := HV.out.str (i := 0) rfl
        cases e0
        obtain ⟨_, _, e2, g2⟩ := HV.out.str (i := 2) rfl
        cases e2
        simp only [Nat.add_zero] at g0
        simp only at y0 y1 y2
        clear x0 x1 x2 m1 HW hge
        generalize w3.drewN n = W at y0 y1 y2 g0 g2 HB4 HV ⊢
        have hk0 : ((kindTo m 5 : Int) == 0) = false := HK0.out
        have ha0 : a.toList.isEmpty = false := empty_f HA0.out
        have ha0' : ¬ a.toList = [] := empty_n HA0.out
        have hb0 : b.toList.isEmpty = false := empty_f HB0.out
        have hb0' : ¬ b.toList = [] := empty_n HB0.out
        generalize (kindTo m 5 : Int) = kd at *
        go_wp2_with fail
        have hal := (Below.refl W.heap.size W).alloc (Nat.le_refl _) (.cells #[.int .i64 0, .string ⟨#[]⟩, .string ⟨#[]⟩] 33)
        have g3 := below_cell hal g0
        have g4 := below_cell hal g2
        clear hal
        go_region
        clear g0 g2 g3 g4
        all_goals
          have hbl := (Below.refl W.heap.size W).alloc (Nat.le_refl _) (.cells #[.int .i64 kd, .string a, .string b] 33)
          have z0 := below_cell hbl y0
          have z1 := below_cell hbl y1
          have z2 := below_cell hbl y2
          have v1 : ((W.alloc (.cells #[.int .i64 kd, .string a, .string b] 33)).drew).heap[W.heap.size]? = some (.cells #[.int .i64 kd, .string a, .string b] 33 (0, 0)) := heap_alloc_new W _
          have HB5 : Hid (Below w.heap.size w ((W.alloc (.cells #[.int .i64 kd, .string a, .string b] 33)).drew)) := Lib.hid (below_drewN (HB4.out.alloc HB4.out.size _) 1)
          have z0' : ((W.alloc (.cells #[.int .i64 kd, .string a, .string b] 33)).drew).cell? ⟨X, 0, none⟩ = _ := z0
          have z1' : ((W.alloc (.cells #[.int .i64 kd, .string a, .string b] 33)).drew).cell? ⟨X, 1, none⟩ = _ := z1
          have z2' : ((W.alloc (.cells #[.int .i64 kd, .string a, .string b] 33)).drew).cell? ⟨X, 2, none⟩ = _ := z2
          clear z0 z1 z2 y0 y1 y2 hbl
          generalize (W.alloc (.cells #[.int .i64 kd, .string a, .string b] 33)).drew = V at v1 HB5 z0' z1' z2' ⊢
          generalize W.heap.size = Y at v1 ⊢
          obtain ⟨⟨u0, u1, u2⟩, _⟩ := rel_row (x := (kd, a, b)) v1
          simp only at u0 u1 u2
          clear v1
          go_wp2_with fail
          refine (check_law (kd, a, b) _ hsa hsb).mono ?_
          rintro e w6 ⟨rfl, hb6⟩
          have HB6 := Lib.hid (below_step HB5.out HB5.out.size hb6)
          have q0 := below_cell hb6 u0
          have q1 := below_cell hb6 u1
          have q2 := below_cell hb6 u2
          have p0 := below_cell hb6 z0'
          have p1 := below_cell hb6 z1'
          have p2 := below_cell hb6 z2'
          clear hb6 u0 u1 u2 z0' z1' z2' HB5 HB4
          rw [HCH.out]
          skip
          have hq : ∀ w, (binOp .eql 33 (.agg #[.int .i64 kd, .string a, .string b]) (.agg #[.int .i64 kd, .string a, .string b])).run Tryd.prog w = .ok (.bool true) w := fun w => by rw [eqlR (kd, a, b) (kd, a, b), decide_eq_true rfl]
          go_wp2_with fail
          go_ret
          exact ⟨rfl, HB6.out⟩
  · rw [if_neg hch] at HP
    unfold zeroR at HP
    have HCH := Lib.hid (show (checkS ((kindTo m 5 : Int), a, b) != 0) = true by simp [hch])
    clear hch
    go_enter Tryd.func4, Tryd.ntmps4
    go_wp2_with fail
    refine (known_any _ HM.out).mono ?_
    rintro e w1 ⟨rfl, hb⟩
    have HB := Lib.hid hb
    clear hb
    go_wp2_with fail
    refine (parse_any s _ (HM.out.below HB.out HM.out.pos) (by omega)).mono ?_
    rintro e w2 ⟨rfl, hb⟩
    rw [HP.out]
    skip
    have HB2 := Lib.hid (below_step HB.out HB.out.size hb)
    clear hb
    simp only
    go_wp2_with fail
    refine (words_law s _ (by omega)).mono ?_
    rintro e w3 ⟨v, rfl, ho, hb⟩
    rw [HL.out] at ho
    obtain ⟨B, c, rfl, hrd, _⟩ := ho.view (by omega)
    have X0 := rel_row (W := w3) (x := ((0, ⟨#[]⟩, ⟨#[]⟩) : Rel)) ((hb.block _ (by simp)).trans (heap_alloc_new w2 _))
    have HB3 := Lib.hid (below_step (HB2.out.alloc HB2.out.size _) (by have := HB2.out.size; simp; omega) hb)
    have HW := Lib.hid hrd
    clear ho hb hrd
    generalize w2.heap.size = X at X0 ⊢
    obtain ⟨⟨x0, x1, x2⟩, _⟩ := X0
    simp only at x0 x1 x2
    go_wp2_with fail
    obtain ⟨b1, o1, rfl, m1⟩ := HW.out.str (i := 1) rfl
    have hm1 : ∀ n, (w3.drewN n).cell? ⟨b1, o1 + 1, none⟩ = some (.string m) := fun n => by rw [World.cell?_drewN]; exact m1
    have HM1 := Lib.hid hm1
    clear hm1
    go_loopw [6, 7] (fun kd i wr => ∃ k : Nat, 1 ≤ k ∧ k ≤ 5 ∧ i = .int .i64 k ∧ kd = .int .i64 (kindTo m k) ∧ ∃ n, wr = w3.drewN n) (fun _ i _ => 5 - (intOf i).toNat)
    case atStart => exact ⟨1, Nat.le_refl _, by omega, rfl, by simp [kindTo], 0, rfl⟩
    case round =>
      obtain ⟨k, hk1, hk5, rfl, rfl, n, rfl⟩ := hrel
      rcases Nat.lt_or_ge k 5 with hlt | hge5
      · have hstep : kindTo m (k + 1) = if m = wordS k then k else kindTo m k := by
          rw [kindTo]
          by_cases h : m = wordS k
          · rw [if_pos ⟨by omega, h⟩, if_pos h]
          · rw [if_neg (fun c => h c.2), if_neg h]
        have hle : (k : Int) ≤ 4 := by omega
        have hlt3 : (1 : Int) < 3 := by omega
        have HST := Lib.hid hstep
        clear hstep x0 x1 x2
        have hq : (m.toList == (wordS k).toList) = decide (m = wordS k) := K.beq_str _ _
        by_cases he : m = wordS k
        · rw [decide_eq_true he] at hq
          rw [if_pos he] at HST
          have hwk : ∀ W, Calls Tryd.prog 18 #[.int .i64 (k : Int)] W fun e w' => e = .returned (.string (wordS k)) ∧ w' = W := fun W => (word_any (k : Int) W (by omega) (by omega)).mono fun _ _ h => ⟨h.1, h.2.symm⟩
          have HWK := Lib.hid hwk
          clear he hwk
          go_wp2_with fail
          go_quiet (exact (HWK.out _).mono fun _ _ h => ⟨h.1, _, h.2⟩)
          go_wp2_with fail
          go_roundw
          case rel => exact ⟨k + 1, by omega, by omega, by go_num, by rw [HST.out], _, rfl⟩
          case measure => simp [intOf]; omega
        · rw [decide_eq_false he] at hq
          rw [if_neg he] at HST
          have hwk : ∀ W, Calls Tryd.prog 18 #[.int .i64 (k : Int)] W fun e w' => e = .returned (.string (wordS k)) ∧ w' = W := fun W => (word_any (k : Int) W (by omega) (by omega)).mono fun _ _ h => ⟨h.1, h.2.symm⟩
          have HWK := Lib.hid hwk
          clear he hwk
          go_wp2_with fail
          go_quiet (exact (HWK.out _).mono fun _ _ h => ⟨h.1, _, h.2⟩)
          go_wp2_with fail
          go_roundw
          case rel => exact ⟨k + 1, by omega, by omega, by go_num, by rw [HST.out], _, rfl⟩
          case measure => simp [intOf]; omega
      · obtain rfl : k = 5 := by omega
        have hge : ¬ ((5 : Nat) : Int) ≤ 4 := by omega
        have HB4 : Hid (Below w.heap.size w (w3.drewN n)) := Lib.hid (below_drewN HB3.out n)
        have y0 : (w3.drewN n).cell? ⟨X, 0, none⟩ = some (.int .i64 (((0, ⟨#[]⟩, ⟨#[]⟩) : Rel)).1) := by rw [World.cell?_drewN]; exact x0
        have y1 : (w3.drewN n).cell? ⟨X, 1, none⟩ = some (.string (((0, ⟨#[]⟩, ⟨#[]⟩) : Rel)).2.1) := by rw [World.cell?_drewN]; exact x1
        have y2 : (w3.drewN n).cell? ⟨X, 2, none⟩ = some (.string (((0, ⟨#[]⟩, ⟨#[]⟩) : Rel)).2.2) := by rw [World.cell?_drewN]; exact x2
        have HV := Lib.hid (HW.out.drew n)
        obtain ⟨_, _, e0, g0⟩ := HV.out.str (i := 0) rfl
        cases e0
        obtain ⟨_, _, e2, g2⟩ := HV.out.str (i := 2) rfl
        cases e2
        simp only [Nat.add_zero] at g0
        simp only at y0 y1 y2
        clear x0 x1 x2 m1 HW hge
        generalize w3.drewN n = W at y0 y1 y2 g0 g2 HB4 HV ⊢
        have hk0 : ((kindTo m 5 : Int) == 0) = false := HK0.out
        have ha0 : a.toList.isEmpty = false := empty_f HA0.out
        have ha0' : ¬ a.toList = [] := empty_n HA0.out
        have hb0 : b.toList.isEmpty = false := empty_f HB0.out
        have hb0' : ¬ b.toList = [] := empty_n HB0.out
        generalize (kindTo m 5 : Int) = kd at *
        go_wp2_with fail
        have hal := (Below.refl W.heap.size W).alloc (Nat.le_refl _) (.cells #[.int .i64 0, .string ⟨#[]⟩, .string ⟨#[]⟩] 33)
        have g3 := below_cell hal g0
        have g4 := below_cell hal g2
        clear hal
        go_region
        clear g0 g2 g3 g4
        all_goals
          have hbl := (Below.refl W.heap.size W).alloc (Nat.le_refl _) (.cells #[.int .i64 kd, .string a, .string b] 33)
          have z0 := below_cell hbl y0
          have z1 := below_cell hbl y1
          have z2 := below_cell hbl y2
          have v1 : ((W.alloc (.cells #[.int .i64 kd, .string a, .string b] 33)).drew).heap[W.heap.size]? = some (.cells #[.int .i64 kd, .string a, .string b] 33 (0, 0)) := heap_alloc_new W _
          have HB5 : Hid (Below w.heap.size w ((W.alloc (.cells #[.int .i64 kd, .string a, .string b] 33)).drew)) := Lib.hid (below_drewN (HB4.out.alloc HB4.out.size _) 1)
          have z0' : ((W.alloc (.cells #[.int .i64 kd, .string a, .string b] 33)).drew).cell? ⟨X, 0, none⟩ = _ := z0
          have z1' : ((W.alloc (.cells #[.int .i64 kd, .string a, .string b] 33)).drew).cell? ⟨X, 1, none⟩ = _ := z1
          have z2' : ((W.alloc (.cells #[.int .i64 kd, .string a, .string b] 33)).drew).cell? ⟨X, 2, none⟩ = _ := z2
          clear z0 z1 z2 y0 y1 y2 hbl
          generalize (W.alloc (.cells #[.int .i64 kd, .string a, .string b] 33)).drew = V at v1 HB5 z0' z1' z2' ⊢
          generalize W.heap.size = Y at v1 ⊢
          obtain ⟨⟨u0, u1, u2⟩, _⟩ := rel_row (x := (kd, a, b)) v1
          simp only at u0 u1 u2
          clear v1
          go_wp2_with fail
          refine (check_law (kd, a, b) _ hsa hsb).mono ?_
          rintro e w6 ⟨rfl, hb6⟩
          have HB6 := Lib.hid (below_step HB5.out HB5.out.size hb6)
          have q0 := below_cell hb6 u0
          have q1 := below_cell hb6 u1
          have q2 := below_cell hb6 u2
          have p0 := below_cell hb6 z0'
          have p1 := below_cell hb6 z1'
          have p2 := below_cell hb6 z2'
          clear hb6 u0 u1 u2 z0' z1' z2' HB5 HB4
          have hne : (checkS (kd, a, b) != 0) = true := HCH.out
          generalize checkS (kd, a, b) = ce at *
          have hq : ∀ w, (binOp .eql 33 (.agg #[.int .i64 0, .string ⟨#[]⟩, .string ⟨#[]⟩]) (.agg #[.int .i64 0, .string ⟨#[]⟩, .string ⟨#[]⟩])).run Tryd.prog w = .ok (.bool true) w := eqlR (0, ⟨#[]⟩, ⟨#[]⟩) (0, ⟨#[]⟩, ⟨#[]⟩)
          go_wp2_with fail
          go_ret
          exact ⟨rfl, HB6.out⟩
end Go.Proofs.YtpnobpnknlpjnaaDoor
