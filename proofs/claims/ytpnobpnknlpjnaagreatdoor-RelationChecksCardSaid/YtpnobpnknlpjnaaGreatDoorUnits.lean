/- relation.Units, relation.Arcs. -/
import Derived.Test.YtpnobpnknlpjnaaGreatDoorCompact
import Derived.Test.YtpnobpnknlpjnaaGreatDoorCompactS
import Derived.Test.YtpnobpnknlpjnaaGreatDoorBefore
import Derived.Test.YtpnobpnknlpjnaaGreatDoorBridge
import Derived.Test.YtpnobpnknlpjnaaGreatDoorAppend
set_option linter.unusedVariables false
set_option linter.unusedSimpArgs false
namespace Go.Proofs.YtpnobpnknlpjnaaGreatDoor
open Go Go.RowKit

def namesOf (xs : List Rel) : List ByteArray := xs.flatMap fun x => [x.2.1, x.2.2]
/-- The names, sorted, each once. -/
def unitsS (xs : List Rel) : List ByteArray := (namesOf xs).foldl (K.ins K.slt) []
def arcsOf (xs : List Rel) : List Arc := xs.flatMap fun x => if x.1 = 4 then [] else [(x.2.2, x.2.1)]
def arcsS (xs : List Rel) : List Arc := (arcsOf xs).foldl (K.ins altS) []
theorem units_of_perm {xs : List Rel} {ys : List ByteArray} (hp : ys.Perm (namesOf xs)) (hs : ys.Pairwise (fun a b => K.slt b a = false)) : K.compact ys = unitsS xs := by
  have h := K.fold_ins K.sto_str (namesOf xs) [] .nil
  exact K.compact_one K.sto_str hs h.1 fun a => by rw [unitsS, h.2, hp.mem_iff]; simp
theorem arcs_of_perm {xs : List Rel} {ys : List Arc} (hp : ys.Perm (arcsOf xs)) (hs : ys.Pairwise (fun a b => altS b a = false)) : K.compact ys = arcsS xs := by
  have h := K.fold_ins sto_alt (arcsOf xs) [] .nil
  exact K.compact_one sto_alt hs h.1 fun a => by rw [arcsS, h.2, hp.mem_iff]; simp
theorem flat_len (xs : List Rel) : (namesOf xs).length = 2 * xs.length := by
  induction xs with
  | nil => rfl
  | cons x r ih => simp only [namesOf, List.flatMap_cons, List.length_append, List.length_cons, List.length_nil] at *; omega
theorem arcs_len (xs : List Rel) : (arcsOf xs).length ≤ xs.length := by
  induction xs with
  | nil => simp [arcsOf]
  | cons x r ih =>
    have e : arcsOf (x :: r) = (if x.1 = 4 then [] else [(x.2.2, x.2.1)]) ++ arcsOf r := rfl
    have h2 : (if x.1 = 4 then ([] : List Arc) else [(x.2.2, x.2.1)]).length ≤ 1 := by split <;> simp
    rw [e, List.length_append, List.length_cons]; omega
theorem namesOf_step {xs : List Rel} {k : Nat} {x : Rel} (h : xs[k]? = some x) : namesOf (xs.take (k + 1)) = namesOf (xs.take k) ++ [x.2.1, x.2.2] := by
  rw [List.take_add_one, h]; simp [namesOf]
theorem arcsOf_step {xs : List Rel} {k : Nat} {x : Rel} (h : xs[k]? = some x) : arcsOf (xs.take (k + 1)) = arcsOf (xs.take k) ++ if x.1 = 4 then [] else [(x.2.2, x.2.1)] := by
  rw [List.take_add_one, h]; simp [arcsOf]
theorem infoS : (Tryz.prog.info? 9).map (fun i => (i.zero, i.size, i.bytes)) = some (some (.string ⟨#[]⟩), 1, 16) := by kernel_rfl
theorem infoA : (Tryz.prog.info? 49).map (fun i => (i.zero, i.size, i.bytes)) = some (some (.agg #[.string ⟨#[]⟩, .string ⟨#[]⟩]), 2, 32) := by kernel_rfl
theorem below_own {w W W' : World} {v : Value} {α : Type} {enc : α → List Value} {k e : Nat} {xs : List α} (HB : Below w.heap.size w W) (ho : Own enc k e w.heap.size W v xs) (hg : W.grownBy W' v.ownBlock) : Below w.heap.size w W' :=
  HB.grown hg HB.size (fun j hj => (ho.lt j hj).1)

/-- At 'out = append(out, a, b)' over names, behind a local variable's block. -/
theorem append_two (base : Nat) (W : World) (xs : List ByteArray) (a b : ByteArray) (o : Obj) (v : Value) (M : Nat) (hM : M = (W.alloc o).heap.size) (ho : Own encS 1 9 base W v xs) (hb : base ≤ W.heap.size) (hl : xs.length ≤ 1000000) :
    ∃ v' w', (Builtin.append_ #[31, 31] 31 #[v, .slice (some ⟨M, 0, none⟩) 2 2]).run Tryz.prog ((W.alloc o).alloc (.cells #[.string a, .string b] 9)) = .ok v' w' ∧
      (Own encS 1 9 base w' v' (xs ++ [a, b]) ∧ Below base W w') := by
  obtain ⟨v', w', hr, h1, h2, _⟩ := run_append_any (P := Tryz.prog) encS 1 (fun _ => rfl) (fun x u hu => by simp [encS] at hu; subst hu; rfl) (by decide) base 31 31 9 _ 16 Tryz.underlying31 infoS rfl (by decide)
    ((W.alloc o).alloc (.cells #[.string a, .string b] 9)) v xs [a, b] (some ⟨M, 0, none⟩) 2 (.inr ⟨_, _, rfl⟩) (World.ownsRow.alloc (World.ownsRow.alloc ho _) _) (Rd.new encS _ [a, b] _ _ hM _ rfl (by simp)) (by simp; omega) (by simp; omega)
  exact ⟨v', w', hr, h1, (((Below.refl base W).alloc hb _).alloc (by simp; omega) _).grown h2 (by simp; omega) (fun j hj => (ho.lt j hj).1)⟩

set_option maxRecDepth 10000 in
set_option maxHeartbeats 2000000 in
theorem units_lib (A : Option Addr) (c : Nat) (xs : List Rel) (w : World) (hx : Rd encR w A xs) (hn : ∀ x ∈ xs, x.2.1.size ≤ 9223372036854775807 ∧ x.2.2.size ≤ 9223372036854775807) :
    Calls Tryz.prog 10 #[.slice A xs.length c] w fun e w' => ∃ v, e = .returned (.tuple #[v, .int .i64 (checkAllS xs)]) ∧ Own encS 1 9 w.heap.size w' v (if checkAllS xs = 0 then unitsS xs else []) ∧ Below w.heap.size w w' := by
  have hlx := hx.1
  have HN := Lib.hid hn
  have HX := Lib.hid hx
  clear hn hx
  by_cases hc : checkAllS xs = 0
  case neg =>
    have hne : (checkAllS xs != 0) = true := by simp [hc]
    rw [if_neg hc]
    clear hc
    go_enter Tryz.func10, Tryz.ntmps10
    go_wp2_with fail
    refine (checkAll_any A c xs _ HX.out HN.out).mono ?_
    rintro e w1 ⟨rfl, hb1⟩
    have HB1 := Lib.hid hb1
    clear hb1
    go_wp2_with fail
    go_ret2
    exact ⟨_, rfl, Own.nil _ _ _ _ _, HB1.out⟩
  have h200 : xs.length ≤ 200 := by
    rcases Nat.lt_or_ge 200 xs.length with h | h
    · simp [checkAllS, h] at hc
    · exact h
  rw [if_pos hc, hc]
  have HC := Lib.hid hc
  clear hc
  go_enter Tryz.func10, Tryz.ntmps10
  go_wp2_with fail
  refine (checkAll_any A c xs _ HX.out HN.out).mono ?_
  rintro e w1 ⟨rfl, hb1⟩
  rw [HC.out]
  have HB1 := Lib.hid hb1
  clear hb1
  go_wp2_with fail
  go_loopw [5, 15] (fun v i wr => ∃ k : Nat, k ≤ xs.length ∧ i = .int .i64 k ∧ Hid (Own encS 1 9 w.heap.size wr v (namesOf (xs.take k))) ∧ Hid (Below w.heap.size w wr)) (fun _ i _ => xs.length - (intOf i).toNat)
  case atStart => exact ⟨0, Nat.zero_le _, rfl, Lib.hid (Own.nil _ _ _ _ _), HB1⟩
  case round =>
    obtain ⟨k, hk, rfl, HW, HB⟩ := hrel
    by_cases hlt : k < xs.length
    · obtain ⟨x, ex⟩ := get_of_lt hlt
      obtain ⟨b0, o0, rfl, x0, x1, x2⟩ := (HX.out.below HB.out).rel ex
      have EX := Lib.hid (namesOf_step ex)
      have HX' := HX
      clear ex HX
      have hrun := append_two (w.heap.size) wr (namesOf (xs.take k)) x.2.1 x.2.2 (.cells #[.int .i64 x.1, .string x.2.1, .string x.2.2] 25) u5 (wr.heap.size + 1) (by simp) HW.out HB.out.size (by rw [flat_len]; simp; omega)
      have HR := Lib.hid hrun
      clear hrun
      go_wp2_with (at_builtin; go_must (refine wpList_append_run rfl (.tmp 19) (.tmp 24) 31 rfl _ _ rfl rfl HR.out ?_))
      intro v1 w2 ho hb
      rw [← EX.out] at ho
      have HO := Lib.hid ho
      have HB2 := Lib.hid (HB.out.trans hb)
      clear ho hb HR HW HB
      go_wp2_with fail
      go_roundw
      case rel => exact ⟨k + 1, by omega, by go_num, HO, HB2⟩
      case measure => simp [intOf]; omega
    · have hge : ¬ (k : Int) < (xs.length : Int) := by omega
      have HW2 := Lib.hid (show Own encS 1 9 w.heap.size wr u5 (namesOf xs) by have h9 := HW.out; rwa [List.take_of_length_le (by omega)] at h9)
      clear HW hlt hk
      go_wp2_with fail
      refine (sort_S u5 _ _ _ HW2.out (by rw [flat_len]; omega)).mono ?_
      rintro e w2 ⟨rfl, ys, hp, hs, ho, hg⟩
      have HB2 := Lib.hid (below_own HB.out HW2.out hg)
      have HK := Lib.hid (units_of_perm hp hs)
      have HO := Lib.hid ho
      have hyl : ys.length ≤ 400 := by rw [hp.length_eq, flat_len]; omega
      clear hp hs ho hg
      go_wp2_with fail
      refine (compact_S _ ys _ _ HO.out (by omega)).mono ?_
      rintro e w3 ⟨v3, rfl, ho, hg, _⟩
      rw [HK.out] at ho
      have HO3 := Lib.hid ho
      have HB3 := Lib.hid (below_own HB2.out HO.out hg)
      clear ho hg
      go_wp2_with fail
      go_ret2
      exact ⟨_, rfl, HO3.out, HB3.out⟩
/-- At 'out = append(out, Arc{a, b})'. -/
theorem append_arc (base : Nat) (W : World) (xs : List Arc) (a b : ByteArray) (o : Obj) (v : Value) (M : Nat) (hM : M = (W.alloc o).heap.size) (ho : Own encA 2 49 base W v xs) (hb : base ≤ W.heap.size) (hl : xs.length ≤ 1000000) :
    ∃ v' w', (Builtin.append_ #[34, 34] 34 #[v, .slice (some ⟨M, 0, none⟩) 1 1]).run Tryz.prog ((W.alloc o).alloc (.cells #[.string a, .string b] 49)) = .ok v' w' ∧
      (Own encA 2 49 base w' v' (xs ++ [(a, b)]) ∧ Below base W w') := by
  obtain ⟨v', w', hr, h1, h2, _⟩ := run_append_any (P := Tryz.prog) encA 2 (fun _ => rfl) (fun x u hu => by simp [encA] at hu; rcases hu with rfl | rfl <;> rfl) (by decide) base 34 34 49 _ 32 Tryz.underlying34 infoA rfl (by decide)
    ((W.alloc o).alloc (.cells #[.string a, .string b] 49)) v xs [(a, b)] (some ⟨M, 0, none⟩) 1 (.inr ⟨_, _, rfl⟩) (World.ownsRow.alloc (World.ownsRow.alloc ho _) _) (Rd.new encA _ [(a, b)] _ _ hM _ rfl (by simp)) (by simp; omega) (by simp; omega)
  exact ⟨v', w', hr, h1, (((Below.refl base W).alloc hb _).alloc (by simp; omega) _).grown h2 (by simp; omega) (fun j hj => (ho.lt j hj).1)⟩

set_option maxRecDepth 10000 in
set_option maxHeartbeats 2000000 in
theorem arcs_lib (A : Option Addr) (c : Nat) (xs : List Rel) (w : World) (hx : Rd encR w A xs) (hn : ∀ x ∈ xs, x.2.1.size ≤ 9223372036854775807 ∧ x.2.2.size ≤ 9223372036854775807) :
    Calls Tryz.prog 11 #[.slice A xs.length c] w fun e w' => ∃ v, e = .returned (.tuple #[v, .int .i64 (checkAllS xs)]) ∧ Own encA 2 49 w.heap.size w' v (if checkAllS xs = 0 then arcsS xs else []) ∧ Below w.heap.size w w' := by
  have hlx := hx.1
  have HN := Lib.hid hn
  have HX := Lib.hid hx
  clear hn hx
  by_cases hc : checkAllS xs = 0
  case neg =>
    have hne : (checkAllS xs != 0) = true := by simp [hc]
    rw [if_neg hc]
    clear hc
    go_enter Tryz.func11, Tryz.ntmps11
    go_wp2_with fail
    refine (checkAll_any A c xs _ HX.out HN.out).mono ?_
    rintro e w1 ⟨rfl, hb1⟩
    have HB1 := Lib.hid hb1
    clear hb1
    go_wp2_with fail
    go_ret2
    exact ⟨_, rfl, Own.nil _ _ _ _ _, HB1.out⟩
  have h200 : xs.length ≤ 200 := by
    rcases Nat.lt_or_ge 200 xs.length with h | h
    · simp [checkAllS, h] at hc
    · exact h
  rw [if_pos hc, hc]
  have HC := Lib.hid hc
  clear hc
  go_enter Tryz.func11, Tryz.ntmps11
  go_wp2_with fail
  refine (checkAll_any A c xs _ HX.out HN.out).mono ?_
  rintro e w1 ⟨rfl, hb1⟩
  rw [HC.out]
  have HB1 := Lib.hid hb1
  clear hb1
  go_wp2_with fail
  go_loopw [5, 15] (fun v i wr => ∃ k : Nat, k ≤ xs.length ∧ i = .int .i64 k ∧ Hid (Own encA 2 49 w.heap.size wr v (arcsOf (xs.take k))) ∧ Hid (Below w.heap.size w wr)) (fun _ i _ => xs.length - (intOf i).toNat)
  case atStart => exact ⟨0, Nat.zero_le _, rfl, Lib.hid (Own.nil _ _ _ _ _), HB1⟩
  case round =>
    obtain ⟨k, hk, rfl, HW, HB⟩ := hrel
    by_cases hlt : k < xs.length
    · obtain ⟨x, ex⟩ := get_of_lt hlt
      obtain ⟨b0, o0, rfl, x0, x1, x2⟩ := (HX.out.below HB.out).rel ex
      have EX := Lib.hid (arcsOf_step ex)
      have HX' := HX
      clear ex HX
      by_cases h4 : x.1 = 4
      · have hb : (x.1 != 4) = false := by simp [h4]
        have EX2 := Lib.hid (show arcsOf (xs.take (k + 1)) = arcsOf (xs.take k) by rw [EX.out, if_pos h4, List.append_nil])
        clear EX h4
        go_wp2_with fail
        go_roundw
        case rel => exact ⟨k + 1, by omega, by go_num, Lib.hid (by rw [EX2.out]; exact World.ownsRow.alloc HW.out _), Lib.hid (HB.out.alloc HB.out.size _)⟩
        case measure => simp [intOf]; omega
      · have hb : (x.1 != 4) = true := by simp [h4]
        have EX2 := Lib.hid (show arcsOf (xs.take (k + 1)) = arcsOf (xs.take k) ++ [(x.2.2, x.2.1)] by rw [EX.out, if_neg h4])
        have hrun := append_arc (w.heap.size) wr (arcsOf (xs.take k)) x.2.2 x.2.1 (.cells #[.int .i64 x.1, .string x.2.1, .string x.2.2] 25) u5 (wr.heap.size + 1) (by simp) HW.out HB.out.size (by have := arcs_len (xs.take k); simp at this; omega)
        have HR := Lib.hid hrun
        clear hrun EX h4
        go_wp2_with (at_builtin; go_must (refine wpList_append_run rfl (.tmp 22) (.tmp 28) 34 rfl _ _ rfl rfl HR.out ?_))
        intro v1 w2 ho hb
        rw [← EX2.out] at ho
        have HO := Lib.hid ho
        have HB2 := Lib.hid (HB.out.trans hb)
        clear ho hb HR HW HB
        go_wp2_with fail
        go_roundw
        case rel => exact ⟨k + 1, by omega, by go_num, HO, HB2⟩
        case measure => simp [intOf]; omega
    · have hge : ¬ (k : Int) < (xs.length : Int) := by omega
      have HW2 := Lib.hid (show Own encA 2 49 w.heap.size wr u5 (arcsOf xs) by have h9 := HW.out; rwa [List.take_of_length_le (by omega)] at h9)
      clear HW hlt hk
      go_wp2_with fail
      refine (sort_A u5 _ _ _ HW2.out (by have := arcs_len xs; omega)).mono ?_
      rintro e w2 ⟨rfl, ys, hp, hs, ho, hg⟩
      have HB2 := Lib.hid (below_own HB.out HW2.out hg)
      have HK := Lib.hid (arcs_of_perm hp hs)
      have HO := Lib.hid ho
      have hyl : ys.length ≤ 400 := by rw [hp.length_eq]; have := arcs_len xs; omega
      clear hp hs ho hg
      go_wp2_with fail
      refine (compact_A _ ys _ _ HO.out (by omega)).mono ?_
      rintro e w3 ⟨v3, rfl, ho, hg, _⟩
      rw [HK.out] at ho
      have HO3 := Lib.hid ho
      have HB3 := Lib.hid (below_own HB2.out HO.out hg)
      clear ho hg
      go_wp2_with fail
      go_ret2
      exact ⟨_, rfl, HO3.out, HB3.out⟩
end Go.Proofs.YtpnobpnknlpjnaaGreatDoor
