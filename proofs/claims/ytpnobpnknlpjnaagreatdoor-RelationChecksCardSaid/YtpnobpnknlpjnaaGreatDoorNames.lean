/- relation.checkNames. -/
import Derived.Test.YtpnobpnknlpjnaaGreatDoorBefore
import Derived.Test.YtpnobpnknlpjnaaGreatDoorOwn
set_option linter.unusedVariables false
set_option linter.unusedSimpArgs false
namespace Go.Proofs.YtpnobpnknlpjnaaGreatDoor
open Go Go.RowKit

def allNames (l : List ByteArray) : Bool := l.all isNameS
def checkNamesS (xs : List Rel) (l : List ByteArray) : Int := if checkAllS xs = 0 then if allNames l = true then 0 else 8 else checkAllS xs

set_option maxRecDepth 10000 in
set_option maxHeartbeats 1000000 in
theorem notName_any (s : ByteArray) (w : World) (hs : s.size ≤ 9223372036854775807) :
    Calls Tryz.prog 44 #[.string s] w fun e w' => e = .returned (.bool (!isNameS s)) ∧ Below w.heap.size w w' := by
  go_enter Tryz.func44, Tryz.ntmps44
  go_wp2_with fail
  refine (isName_lib s _ hs).mono ?_
  rintro e w1 ⟨rfl, hb⟩
  have HB := Lib.hid hb
  clear hb
  go_wp2_with fail
  go_ret
  exact ⟨rfl, HB.out⟩

set_option maxRecDepth 10000 in
set_option maxHeartbeats 1000000 in
theorem badName_at (A : Option Addr) (c : Nat) (l : List ByteArray) (w : World) (hx : Rd encS w A l) (hs : ∀ s ∈ l, s.size ≤ 9223372036854775807) :
    Calls Tryz.prog 75 #[.slice A l.length c, .func (.func 44) #[] #[]] w fun e w' => (∃ i : Int, e = .returned (.int .i64 i) ∧ (0 ≤ i ↔ allNames l = false)) ∧ Below w.heap.size w w' := by
  have hlx := hx.1
  have HX := Lib.hid hx
  have HS := Lib.hid hs
  clear hx hs
  go_enter Tryz.func75, Tryz.ntmps75
  go_wp2_with fail
  go_loopw [8] (fun i wr => ∃ k : Nat, k ≤ l.length ∧ i = .int .i64 k ∧ Hid (allNames l = allNames (l.drop k)) ∧ Hid (Below w.heap.size w wr)) (fun i _ => l.length - (intOf i).toNat)
  case atStart => exact ⟨0, Nat.zero_le _, rfl, Lib.hid rfl, Lib.hid (Below.refl _ _)⟩
  case round =>
    obtain ⟨k, hk, rfl, HT, HB⟩ := hrel
    by_cases hlt : k < l.length
    · obtain ⟨s, es⟩ := get_of_lt hlt
      obtain ⟨b0, o0, rfl, x0⟩ := (HX.out.below HB.out).str es
      have hsz := HS.out s (List.mem_of_getElem? es)
      have hst : allNames l = (isNameS s && allNames (l.drop (k + 1))) := by
        rw [HT.out, List.drop_eq_getElem_cons hlt]
        have : l[k] = s := by rw [List.getElem?_eq_getElem hlt] at es; exact Option.some.inj es
        rw [this]; simp [allNames]
      have HST := Lib.hid hst
      have HX' := HX
      clear hst es HT HX HS
      go_wp2_with fail
      refine (notName_any s _ hsz).mono ?_
      rintro e w2 ⟨rfl, hb⟩
      have HB2 := Lib.hid (below_step HB.out HB.out.size hb)
      clear hb
      cases hn : isNameS s with
      | true =>
        have HN := Lib.hid hn
        clear hn
        go_wp2_with fail
        go_roundw
        case rel => exact ⟨k + 1, by omega, by go_num, Lib.hid (by rw [HST.out, HN.out]; rfl), HB2⟩
        case measure => simp [intOf]; omega
      | false =>
        have HN := Lib.hid hn
        clear hn
        go_wp2_with fail
        go_ret
        exact ⟨⟨_, rfl, by rw [HST.out, HN.out]; simp⟩, HB2.out⟩
    · have hge : ¬ (k : Int) < (l.length : Int) := by omega
      have HE := Lib.hid (show allNames l = true by rw [HT.out, List.drop_eq_nil_of_le (by omega)]; rfl)
      clear HT
      go_wp2_with fail
      go_ret
      exact ⟨⟨_, rfl, by rw [HE.out]; simp⟩, HB.out⟩

set_option maxRecDepth 10000 in
set_option maxHeartbeats 1000000 in
theorem anyBad (A : Option Addr) (c : Nat) (l : List ByteArray) (w : World) (hx : Rd encS w A l) (hs : ∀ s ∈ l, s.size ≤ 9223372036854775807) :
    Calls Tryz.prog 43 #[.slice A l.length c, .func (.func 44) #[] #[]] w fun e w' => e = .returned (.bool (!allNames l)) ∧ Below w.heap.size w w' := by
  have HX := Lib.hid hx
  have HS := Lib.hid hs
  clear hx hs
  go_enter Tryz.func43, Tryz.ntmps43
  go_wp2_with fail
  refine (badName_at A c l _ HX.out HS.out).mono ?_
  rintro e w2 ⟨⟨i, rfl, hi⟩, hb⟩
  have HB := Lib.hid hb
  have HI := Lib.hid hi
  clear hb hi
  go_wp2_with fail
  go_ret
  refine ⟨ret_b ?_, HB.out⟩
  have := HI.out
  cases h : allNames l with
  | true => rw [h] at this; simp at this; simp; omega
  | false => rw [h] at this; simp at this; simp; omega

set_option maxRecDepth 10000 in
set_option maxHeartbeats 1000000 in
theorem checkNames_any (A B : Option Addr) (c d : Nat) (xs : List Rel) (l : List ByteArray) (w : World) (hx : Rd encR w A xs) (hy : Rd encS w B l) (hn : ∀ x ∈ xs, x.2.1.size ≤ 9223372036854775807 ∧ x.2.2.size ≤ 9223372036854775807) (hs : ∀ s ∈ l, s.size ≤ 9223372036854775807) :
    Calls Tryz.prog 30 #[.slice A xs.length c, .slice B l.length d] w fun e w' => e = .returned (.int .i64 (checkNamesS xs l)) ∧ Below w.heap.size w w' := by
  have HX := Lib.hid hx
  have HY := Lib.hid hy
  have HN := Lib.hid hn
  have HS := Lib.hid hs
  clear hx hy hs hn
  by_cases hc : checkAllS xs = 0
  · have HR := Lib.hid (show checkNamesS xs l = if allNames l = true then 0 else 8 from if_pos hc)
    have HC := Lib.hid hc
    clear hc
    go_enter Tryz.func30, Tryz.ntmps30
    go_wp2_with fail
    refine (checkAll_any A c xs _ HX.out HN.out).mono ?_
    rintro e w1 ⟨rfl, hb1⟩
    rw [HC.out]
    have HB1 := Lib.hid hb1
    clear hb1
    go_wp2_with fail
    refine (anyBad B d l _ (HY.out.below HB1.out) HS.out).mono ?_
    rintro e w2 ⟨rfl, hb2⟩
    have HB2 := Lib.hid (below_step HB1.out HB1.out.size hb2)
    clear hb2
    cases ha : allNames l with
    | true =>
      rw [ha] at HR
      have HR2 := Lib.hid HR.out
      clear ha HR
      go_wp2_with fail
      go_ret
      exact ⟨ret_i (by rw [HR2.out]; rfl), HB2.out⟩
    | false =>
      rw [ha] at HR
      have HR2 := Lib.hid HR.out
      clear ha HR
      go_wp2_with fail
      go_ret
      exact ⟨ret_i (by rw [HR2.out]; rfl), HB2.out⟩
  · have hne : (checkAllS xs != 0) = true := by simp [hc]
    have HR := Lib.hid (show checkNamesS xs l = checkAllS xs from if_neg hc)
    clear hc
    go_enter Tryz.func30, Tryz.ntmps30
    go_wp2_with fail
    refine (checkAll_any A c xs _ HX.out HN.out).mono ?_
    rintro e w1 ⟨rfl, hb1⟩
    have HB1 := Lib.hid hb1
    clear hb1
    go_wp2_with fail
    go_ret
    exact ⟨ret_i (by rw [HR.out]), HB1.out⟩
end Go.Proofs.YtpnobpnknlpjnaaGreatDoor
