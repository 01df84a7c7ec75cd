/- The statement about normal forms, walked. -/
import Derived.Test.YtpnobpnknlpjnaaDoorKnown
import Derived.Test.YtpnobpnknlpjnaaDoorNormalLaw
import Derived.Test.YtpnobpnknlpjnaaDoorMake
import Derived.Test.YtpnobpnknlpjnaaDoorSame
import Derived.Test.YtpnobpnknlpjnaaDoorOpen
import Derived.Deep.RegionHeld3
set_option linter.unusedVariables false
set_option linter.unusedSimpArgs false
namespace Go.Proofs.YtpnobpnknlpjnaaDoor
open Go Go.RowKit

/-- The relations of descriptions are right. -/
theorem size_unit (n : Int) : (unitS n).size = 1 := rfl
theorem name_unit (n : Int) (h : 0 ≤ n % 8) : isNameS (unitS n) = true := by
  have h8 : n % 8 < 8 := Int.emod_lt_of_pos _ (by omega)
  unfold unitS
  rcases (show n % 8 = 0 ∨ n % 8 = 1 ∨ n % 8 = 2 ∨ n % 8 = 3 ∨ n % 8 = 4 ∨ n % 8 = 5 ∨ n % 8 = 6 ∨ n % 8 = 7 by omega) with e | e | e | e | e | e | e | e <;> (rw [e]; decide +kernel)
theorem unit_inj {a b : Int} (h : unitS a = unitS b) : a % 8 = b % 8 := by
  have ha : 0 ≤ a % 8 ∧ a % 8 < 8 := ⟨Int.emod_nonneg _ (by omega), Int.emod_lt_of_pos _ (by omega)⟩
  have hb : 0 ≤ b % 8 ∧ b % 8 < 8 := ⟨Int.emod_nonneg _ (by omega), Int.emod_lt_of_pos _ (by omega)⟩
  unfold unitS at h
  generalize a % 8 = x at *
  generalize b % 8 = y at *
  have h2 : UInt8.ofNat (97 + x).toNat = UInt8.ofNat (97 + y).toNat := by
    injection h with h; simpa using h
  have h3 := congrArg UInt8.toNat h2
  simp [UInt8.toNat_ofNat'] at h3
  omega
theorem check_mk (d : Int × Int × Int) : checkS (mkS d) = 0 := by
  obtain ⟨k, u, l⟩ := d
  have hk : 0 ≤ k % 4 ∧ k % 4 < 4 := ⟨Int.emod_nonneg _ (by omega), Int.emod_lt_of_pos _ (by omega)⟩
  have hu : 0 ≤ u % 8 ∧ u % 8 < 8 := ⟨Int.emod_nonneg _ (by omega), Int.emod_lt_of_pos _ (by omega)⟩
  have hl : 0 ≤ l % 8 ∧ l % 8 < 8 := ⟨Int.emod_nonneg _ (by omega), Int.emod_lt_of_pos _ (by omega)⟩
  unfold checkS mkS
  simp only
  have n1 := name_unit u hu.1
  have n2 : isNameS (unitS (if l % 8 = u % 8 then l % 8 + 1 else l % 8)) = true := name_unit _ (Int.emod_nonneg _ (by omega))
  rw [if_neg (by omega), if_neg (by simp [n1, n2]), if_neg]
  intro h
  have h2 := unit_inj h
  split at h2 <;> omega
theorem firstS_zero : ∀ l : List Rel, (∀ x ∈ l, checkS x = 0) → firstS l = 0
  | [], _ => rfl
  | x :: r, h => by rw [firstS, if_pos (h x (by simp)), firstS_zero r (fun y hy => h y (List.mem_cons_of_mem _ hy))]
theorem makeS_len (l : List (Int × Int × Int)) : (makeS l).length ≤ 12 := by unfold makeS; simp; omega
theorem makeS_ok (l : List (Int × Int × Int)) : ∀ x ∈ makeS l, checkS x = 0 := by
  intro x hx
  obtain ⟨d, _, rfl⟩ := List.mem_map.1 hx
  exact check_mk d
theorem makeS_all (l : List (Int × Int × Int)) : checkAllS (makeS l) = 0 := by
  have h := makeS_len l
  unfold checkAllS
  rw [if_neg (by omega), firstS_zero _ (makeS_ok l)]
theorem makeS_size (l : List (Int × Int × Int)) : ∀ x ∈ makeS l, x.2.1.size ≤ 9223372036854775807 ∧ x.2.2.size ≤ 9223372036854775807 := by
  intro x hx
  obtain ⟨d, _, rfl⟩ := List.mem_map.1 hx
  simp only [mkS, size_unit]
  omega
theorem normalS_len (xs : List Rel) : (normalS xs).length ≤ xs.length := by
  have : ∀ (ys acc : List Rel), (ys.foldl (K.ins rltS) acc).length ≤ acc.length + ys.length := by
    intro ys
    induction ys with
    | nil => intro acc; simp
    | cons y r ih =>
      intro acc
      have h := ih (K.ins rltS acc y)
      have h2 : ∀ (l : List Rel), (K.ins rltS l y).length ≤ l.length + 1 := by
        intro l
        induction l with
        | nil => simp [K.ins]
        | cons z t ih => unfold K.ins; split <;> (try split) <;> simp <;> omega
      have := h2 acc
      simp; omega
  have := this (xs.map flipS) []
  simpa [normalS] using this

set_option maxRecDepth 10000 in
set_option maxHeartbeats 2000000 in
theorem law_normals (A : Option Addr) (len cap : Nat) (w : World) (hm : Mx w) (hl : len ≤ 9223372036854775807) (h : len ≤ 12 → ∃ xs : List (Int × Int × Int), xs.length = len ∧ Rd enc3 w A xs ∧ ∀ d ∈ xs, (0 ≤ d.1 ∧ d.1 ≤ 255) ∧ (0 ≤ d.2.1 ∧ d.2.1 ≤ 255) ∧ (0 ≤ d.2.2 ∧ d.2.2 ≤ 255)) :
    Calls Tryd.prog 3 #[.slice A len cap] w fun e w' => e = .returned (.bool true) ∧ Below w.heap.size w w' := by
  have HM := Lib.hid hm
  clear hm
  rcases Nat.lt_or_ge 12 len with hlen | hlen
  · clear h
    have h12 : (12 : Int) < (len : Int) := by omega
    go_enter Tryd.func3, Tryd.ntmps3
    go_wp2_with fail
    refine (known_any _ HM.out).mono ?_
    rintro e w1 ⟨rfl, hb⟩
    have HB := Lib.hid hb
    clear hb
    go_wp2_with fail
    refine (known_any _ (HM.out.below HB.out HM.out.pos)).mono ?_
    rintro e w2 ⟨rfl, hb⟩
    have HB2 := Lib.hid (below_step HB.out HB.out.size hb)
    clear hb
    go_wp2_with fail
    go_ret
    exact ⟨rfl, HB2.out⟩
  · obtain ⟨xs, rfl, hx, hr⟩ := h hlen
    have h12 : ¬ (12 : Int) < (xs.length : Int) := by omega
    have HX := Lib.hid hx
    have HR := Lib.hid hr
    clear hx hr h
    go_enter Tryd.func3, Tryd.ntmps3
    go_wp2_with fail
    refine (known_any _ HM.out).mono ?_
    rintro e w1 ⟨rfl, hb⟩
    have HB := Lib.hid hb
    clear hb
    go_wp2_with fail
    refine (make_any A cap xs _ (HX.out.below HB.out) HR.out).mono ?_
    rintro e w2 ⟨v, rfl, ho, hb⟩
    obtain ⟨B, c, rfl, hrd, hBo⟩ := ho.view (by have := makeS_len xs; omega)
    have HB2 := Lib.hid (below_step HB.out HB.out.size hb)
    have HV := Lib.hid hrd
    clear ho hb hrd
    go_wp2_with fail
    refine (normal_lib B c (makeS xs) _ HV.out hBo (makeS_size xs)).mono ?_
    rintro e w3 ⟨v3, rfl, ho, hb⟩
    rw [if_pos (makeS_all xs)] at ho
    rw [makeS_all xs]
    obtain ⟨B3, c3, rfl, hrd, _⟩ := ho.view (by have := makeS_len xs; have := normalS_len (makeS xs); omega)
    have HB3 := Lib.hid (below_step HB2.out HB2.out.size hb)
    have HN := Lib.hid hrd
    clear ho hb hrd HV hBo
    go_wp2_with fail
    refine (make_any A cap xs _ (HX.out.below HB3.out) HR.out).mono ?_
    rintro e w4 ⟨v4, rfl, ho, hb⟩
    obtain ⟨B4, c4, rfl, hrd, _⟩ := ho.view (by have := makeS_len xs; omega)
    have HN4 := Lib.hid (HN.out.below hb)
    have HB4 := Lib.hid (below_step HB3.out HB3.out.size hb)
    have HV := Lib.hid hrd
    clear ho hb hrd HN
    go_wp2_with fail
    refine (normal_law B4 c4 (makeS xs) _ HV.out (by have := makeS_len xs; omega)).mono ?_
    rintro e w5 ⟨v5, rfl, ho, hb⟩
    obtain ⟨B5, c5, rfl, hrd, _⟩ := ho.view (by have := makeS_len xs; have := normalS_len (makeS xs); omega)
    have HN5 := Lib.hid (HN4.out.below hb)
    have HB5 := Lib.hid (below_step HB4.out HB4.out.size hb)
    have HV5 := Lib.hid hrd
    clear ho hb hrd HN4 HV
    go_wp2_with fail
    refine (same_any B3 B5 c3 c5 (normalS (makeS xs)) (normalS (makeS xs)) _ HN5.out HV5.out).mono ?_
    rintro e w6 ⟨rfl, n, rfl⟩
    rw [decide_eq_true rfl]
    go_wp2_with fail
    go_ret
    exact ⟨rfl, below_drewN HB5.out n⟩
end Go.Proofs.YtpnobpnknlpjnaaDoor
