/- relation.Normal. -/
import Derived.Test.YtpnobpnknlpjnaaGreatDoorCompact
import Derived.Test.YtpnobpnknlpjnaaGreatDoorCompactS
import Derived.Test.YtpnobpnknlpjnaaGreatDoorBefore
import Derived.Test.YtpnobpnknlpjnaaGreatDoorBridge
import Derived.ChangeAlike
import Derived.BigRegion
import Derived.Deep.Onto
set_option linter.unusedVariables false
set_option linter.unusedSimpArgs false
namespace Go.Proofs.YtpnobpnknlpjnaaGreatDoor
open Go Go.RowKit

def flipS (x : Rel) : Rel := if x.1 = 4 ∧ K.slt x.2.2 x.2.1 = true then (x.1, x.2.2, x.2.1) else x
/-- Sorted, each once. -/
def normalS (xs : List Rel) : List Rel := (xs.map flipS).foldl (K.ins rltS) []
theorem normal_of_perm {xs ys : List Rel} (hp : ys.Perm (xs.map flipS)) (hs : ys.Pairwise (fun a b => rltS b a = false)) : K.compact ys = normalS xs := by
  have h := K.fold_ins sto_rlt (xs.map flipS) [] .nil
  exact K.compact_one sto_rlt hs h.1 fun a => by rw [normalS, h.2, hp.mem_iff]; simp
theorem set_map_take {α : Type} (f : α → α) (xs : List α) {k : Nat} {x : α} (hx : xs[k]? = some x) : ((xs.map f).take k ++ xs.drop k).set k (f x) = (xs.map f).take (k + 1) ++ xs.drop (k + 1) := by
  have hk := lt_of_get hx
  have e : xs[k] = x := by rw [List.getElem?_eq_getElem hk] at hx; exact Option.some.inj hx
  rw [List.set_append_right _ _ (by simp; omega), List.length_take, List.length_map, Nat.min_eq_left (by omega), Nat.sub_self, List.drop_eq_getElem_cons hk, List.set_cons_zero, List.take_add_one, List.getElem?_map, hx]
  simp
theorem get_map_take {α : Type} (f : α → α) (xs : List α) {k : Nat} : ((xs.map f).take k ++ xs.drop k)[k]? = xs[k]? := by
  rcases Nat.lt_or_ge k xs.length with h | h
  · rw [List.getElem?_append_right (by simp; omega), List.getElem?_drop, List.length_take, List.length_map, Nat.min_eq_left (by omega)]
    congr 1; omega
  · rw [List.getElem?_eq_none (by simp; omega), List.getElem?_eq_none h]

theorem set_self_get {α : Type} {xs : List α} {i : Nat} {x : α} (h : xs[i]? = some x) : xs.set i x = xs := by
  apply List.ext_getElem?
  intro j
  rw [List.getElem?_set]
  split
  · rename_i e; subst e; rw [h]; simp [lt_of_get h]
  · rfl
theorem gt_str {a b : ByteArray} (h : K.slt b a = true) : (!Op.bytesLess a.toList b.toList && !a.toList == b.toList) = true := by
  have h1 : K.slt a b = false := K.slt_asymm h
  rw [show Op.bytesLess a.toList b.toList = K.slt a b from rfl, h1, K.beq_str]
  have : a ≠ b := by rintro rfl; rw [K.slt_irrefl] at h; cases h
  simp [this]
theorem ngt_str {a b : ByteArray} (h : K.slt b a = false) : (!Op.bytesLess a.toList b.toList && !a.toList == b.toList) = false := by
  rw [show Op.bytesLess a.toList b.toList = K.slt a b from rfl, K.beq_str]
  cases h1 : K.slt a b with
  | true => rfl
  | false => have := K.slt_total h1 h; simp [this]

set_option maxRecDepth 10000 in
set_option maxHeartbeats 2000000 in
theorem normal_lib (A : Option Addr) (c : Nat) (xs : List Rel) (w : World) (hx : Rd encR w A xs) (ha : A = none ∨ ∃ b o, A = some ⟨b, o, none⟩) (hn : ∀ x ∈ xs, x.2.1.size ≤ 9223372036854775807 ∧ x.2.2.size ≤ 9223372036854775807) :
    Calls Tryz.prog 9 #[.slice A xs.length c] w fun e w' => ∃ v, e = .returned (.tuple #[v, .int .i64 (checkAllS xs)]) ∧ Own encR 3 25 w.heap.size w' v (if checkAllS xs = 0 then normalS xs else []) ∧ Below w.heap.size w w' := by
  have hlx := hx.1
  have HN := Lib.hid hn
  have HX := Lib.hid hx
  clear hn hx
  by_cases hc : checkAllS xs = 0
  case neg =>
    have hne : (checkAllS xs != 0) = true := by simp [hc]
    rw [if_neg hc]
    have HC := Lib.hid hc
    clear hc
    go_enter Tryz.func9, Tryz.ntmps9
    go_wp2_with fail
    refine (checkAll_any A c xs _ HX.out HN.out).mono ?_
    rintro e w1 ⟨rfl, hb1⟩
    have HB1 := Lib.hid hb1
    clear hb1
    go_wp2_with fail
    go_ret2
    exact ⟨_, rfl, Own.nil _ _ _ _ _, HB1.out⟩
  have h200 : xs.length ≤ 200 := by
    rcases Nat.lt_or_ge 200 xs.length with h | h
    · simp [checkAllS, h] at hc
    · exact h
  rw [if_pos hc, hc]
  have HC := Lib.hid hc
  clear hc
  go_enter Tryz.func9, Tryz.ntmps9
  go_wp2_with fail
  refine (checkAll_any A c xs _ HX.out HN.out).mono ?_
  rintro e w1 ⟨rfl, hb1⟩
  rw [HC.out]
  have HB1 := Lib.hid hb1
  clear hb1
  go_wp2_with fail
  refine (clone_R A c xs _ (HX.out.below HB1.out) (by omega) ha).mono ?_
  rintro e w2 ⟨v, rfl, ho2, hb2⟩
  have HB2 := Lib.hid (below_step HB1.out HB1.out.size hb2)
  have hbase := HB1.out.size
  have HO2 := Lib.hid ho2
  have hsz2 : w.heap.size ≤ w2.heap.size := HB2.out.size
  clear hb2
  have hv : ∃ B d, v = .slice B xs.length d ∧ (xs = [] ∨ ∃ g, B = some ⟨g, 0, none⟩ ∧ w1.heap.size ≤ g) := by
    rcases ho2.2 with ⟨h, h1⟩ | ⟨g, cap, cur, h, h2, _⟩
    · have := List.eq_nil_of_length_eq_zero h1
      subst this
      exact ⟨none, 0, h, .inl rfl⟩
    · exact ⟨_, cap, h, .inr ⟨g, rfl, h2⟩⟩
  clear ho2
  obtain ⟨B, d, rfl, hB⟩ := hv
  -- the walk up to the sort
  have rest : ∀ (W : World), Own encR 3 25 w.heap.size W (.slice B xs.length d) (xs.map flipS) → Below w.heap.size w W →
      Calls Tryz.prog 20 #[.slice B xs.length d, .func (.func 21) #[] #[]] W fun e w' => e = .returned (.tuple #[]) ∧
        ∃ ys : List Rel, K.compact ys = normalS xs ∧ Own encR 3 25 w.heap.size w' (.slice B xs.length d) ys ∧ Below w.heap.size w w' ∧ ys.length = xs.length := by
    intro W ho hb
    refine (sort_R _ _ _ W ho (by simp; omega)).mono ?_
    rintro e w' ⟨he, ys, hp, hs, ho', hg⟩
    exact ⟨he, ys, normal_of_perm hp hs, ho', hb.grown hg hb.size (fun j hj => (ho.lt j hj).1), by rw [hp.length_eq, List.length_map]⟩
  have REST := Lib.hid rest
  clear rest
  go_wp2_with fail
  go_loopw [17] (fun i wr => ∃ k : Nat, k ≤ xs.length ∧ i = .int .i64 k ∧ Hid (Own encR 3 25 w1.heap.size wr (.slice B xs.length d) ((xs.map flipS).take k ++ xs.drop k)) ∧ Hid (Below w.heap.size w wr)) (fun i _ => xs.length - (intOf i).toNat)
  case atStart => exact ⟨0, Nat.zero_le _, rfl, Lib.hid (by simpa using HO2.out), HB2⟩
  case round =>
    obtain ⟨k, hk, rfl, HW, HB⟩ := hrel
    by_cases hlt : k < xs.length
    · rcases hB with rfl | ⟨g, rfl, hg1⟩
      · exact absurd hlt (by simp)
      obtain ⟨x, ex⟩ := get_of_lt hlt
      obtain ⟨x0, x1, x2⟩ := HW.out.rel ((get_map_take flipS xs).trans ex)
      have hset := set_map_take flipS xs ex
      have HS := Lib.hid hset
      have hi1 := HW.out.ice (k * 3 + 1)
      have hi2 := HW.out.ice (k * 3 + 2)
      have EX := Lib.hid ex
      clear ex hset
      by_cases h4 : x.1 = 4
      · cases hgt : K.slt x.2.2 x.2.1 with
        | true =>
          have hf : flipS x = (x.1, x.2.2, x.2.1) := if_pos ⟨h4, hgt⟩
          have hb : (x.1 == 4) = true := by simp [h4]
          have hb2 : (!Op.bytesLess x.2.1.toList x.2.2.toList && !x.2.1.toList == x.2.2.toList) = true := gt_str hgt
          have HF := Lib.hid hf
          clear hf h4 hgt
          go_wp2_with fail
          generalize hN : wr.heap.size = N
          have c1 : (wr.alloc (.cells #[.int .i64 x.1, .string x.2.1, .string x.2.2] 25)).cell? ⟨N, 1, none⟩ = some (.string x.2.1) := by rw [← hN]; simp
          have c2 : (wr.alloc (.cells #[.int .i64 x.1, .string x.2.1, .string x.2.2] 25)).cell? ⟨N, 2, none⟩ = some (.string x.2.2) := by rw [← hN]; simp
          have HW2 : Own encR 3 25 w1.heap.size (wr.alloc (.cells #[.int .i64 x.1, .string x.2.1, .string x.2.2] 25)) (.slice (some ⟨g, 0, none⟩) xs.length d) ((xs.map flipS).take k ++ xs.drop k) := World.ownsRow.alloc HW.out _
          have HB2 : Below w.heap.size w (wr.alloc (.cells #[.int .i64 x.1, .string x.2.1, .string x.2.2] 25)) := HB.out.alloc HB.out.size _
          have hgN : g ≠ N := fun e => by have := (HW.out.lt g rfl).2; omega
          generalize wr.alloc (.cells #[.int .i64 x.1, .string x.2.1, .string x.2.2] 25) = W at c1 c2 HW2 HB2 ⊢
          have y1 := HW2.rel ((get_map_take flipS xs).trans EX.out)
          obtain ⟨y0, y1, y2⟩ := y1
          have j1 := HW2.ice (k * 3 + 1)
          have j2 := HW2.ice (k * 3 + 2)
          have HW3 := Lib.hid HW2
          have HB3 := Lib.hid HB2
          clear HW2 HB2 x0 x1 x2 hi1 hi2
          go_region
          clear y0 y1 y2 j1 j2 c1 c2
          go_wp2_with fail
          go_roundw
          case rel =>
            obtain ⟨p1, p2⟩ := own_cell (k := 3) (fun _ => rfl) HW3.out ((get_map_take flipS xs).trans EX.out) (j := 1) (by decide) (.string x.2.2) (y := (x.1, x.2.2, x.2.2)) rfl
            obtain ⟨q1, q2⟩ := own_cell (k := 3) (fun _ => rfl) p1 (i := k) (x := (x.1, x.2.2, x.2.2)) (by rw [List.getElem?_set_self (by simp; omega)]) (j := 2) (by decide) (.string x.2.1) (y := (x.1, x.2.2, x.2.1)) rfl
            rw [List.set_set, ← HF.out, HS.out] at q1
            refine ⟨k + 1, by omega, by go_num, Lib.hid q1, Lib.hid ((HB3.out.grown (World.grownBy.trans p2 (World.grownBy.trans q2 ⟨rfl, rfl, rfl, Nat.le_refl _, fun _ _ _ => rfl⟩)) HB3.out.size ?_))⟩
            intro j hj
            cases hj
            omega
          case measure => simp [intOf]; omega
        | false =>
          have hf : flipS x = x := if_neg (by simp [hgt])
          have hb : (x.1 == 4) = true := by simp [h4]
          have hb2 : (!Op.bytesLess x.2.1.toList x.2.2.toList && !x.2.1.toList == x.2.2.toList) = false := ngt_str hgt
          have HF := Lib.hid hf
          clear hf h4 hgt
          go_wp2_with fail
          go_roundw
          case rel =>
            refine ⟨k + 1, by omega, by go_num, Lib.hid ?_, Lib.hid (HB.out.alloc HB.out.size _)⟩
            have h9 := HS.out
            rw [HF.out, set_self_get ((get_map_take flipS xs).trans EX.out)] at h9
            rw [← h9]
            exact World.ownsRow.alloc HW.out _
          case measure => simp [intOf]; omega
      · have hf : flipS x = x := if_neg (by simp [h4])
        have hb : (x.1 == 4) = false := by simp [h4]
        have HF := Lib.hid hf
        clear hf h4
        go_wp2_with fail
        go_roundw
        case rel =>
          refine ⟨k + 1, by omega, by go_num, Lib.hid ?_, Lib.hid (HB.out.alloc HB.out.size _)⟩
          have h9 := HS.out
          rw [HF.out, set_self_get ((get_map_take flipS xs).trans EX.out)] at h9
          rw [← h9]
          exact World.ownsRow.alloc HW.out _
        case measure => simp [intOf]; omega
    · have hge : ¬ (k : Int) < (xs.length : Int) := by omega
      have HO3 : Hid (Own encR 3 25 w.heap.size wr (.slice B xs.length d) (xs.map flipS)) := Lib.hid (by
        have h9 := HW.out
        rw [List.take_of_length_le (by simp; omega), List.drop_eq_nil_of_le (by omega), List.append_nil] at h9
        exact World.ownsRow.mono h9 hbase)
      clear HO2 HW hk hlt hB
      go_wp2_with fail
      refine (REST.out _ HO3.out HB.out).mono ?_
      rintro e w3 ⟨rfl, ys, hk, ho, hb, hy⟩
      have HK := Lib.hid hk
      have HO4 := Lib.hid ho
      have HB4 := Lib.hid hb
      clear hk ho hb
      go_wp2_with fail
      refine (compact_R _ ys _ _ HO4.out (by omega)).mono ?_
      rintro e w4 ⟨v4, rfl, ho5, hg5, hv5⟩
      rw [HK.out] at ho5
      have HO5 := Lib.hid ho5
      have HB5 := Lib.hid (HB4.out.grown hg5 HB4.out.size (fun j hj => (HO4.out.lt j hj).1))
      clear ho5 hg5
      go_wp2_with fail
      go_ret2
      exact ⟨_, rfl, HO5.out, HB5.out⟩
end Go.Proofs.YtpnobpnknlpjnaaGreatDoor
