/- The examples of the chapter. -/
import Derived.Test.YtpnobpnknlpjnaaGreatDoorParse
import Derived.Test.YtpnobpnknlpjnaaGreatDoorNormal
import Derived.Test.YtpnobpnknlpjnaaGreatDoorUnits
import Derived.Test.YtpnobpnknlpjnaaGreatDoorEq
set_option linter.unusedVariables false
set_option linter.unusedSimpArgs false
namespace Go.Proofs.YtpnobpnknlpjnaaGreatDoor
open Go Go.RowKit

def t1 : ByteArray := ⟨#[115, 97, 110, 100, 115, 116, 111, 110, 101, 32, 111, 118, 101, 114, 108, 105, 101, 115, 32, 115, 104, 97, 108, 101]⟩
def t2 : ByteArray := ⟨#[97, 32, 111, 118, 101, 114, 108, 105, 101, 115, 32, 97]⟩
def shale : ByteArray := ⟨#[115, 104, 97, 108, 101]⟩
def sandstone : ByteArray := ⟨#[115, 97, 110, 100, 115, 116, 111, 110, 101]⟩
def kR : List Rel := [(4, ⟨#[98]⟩, ⟨#[97]⟩), (2, ⟨#[99]⟩, ⟨#[97]⟩), (4, ⟨#[97]⟩, ⟨#[98]⟩)]
theorem known_1 : parseS t1 = ((1, sandstone, shale), 0) := by decide +kernel
theorem known_2 : parseS t2 = (zeroR, 14) := by decide +kernel
theorem known_3 : checkAllS [(1, sandstone, shale)] = 0 ∧ arcsS [(1, sandstone, shale)] = [(shale, sandstone)] := by decide +kernel
theorem known_4 : checkAllS kR = 0 ∧ normalS kR = [(2, ⟨#[99]⟩, ⟨#[97]⟩), (4, ⟨#[97]⟩, ⟨#[98]⟩)] := by decide +kernel

theorem own_at0 {w : World} {base e : Nat} {v : Value} {xs : List Arc} (h : Own encA 2 e base w v xs) {x : Arc} (hx : xs = [x]) : ∃ g c, v = .slice (some ⟨g, 0, none⟩) 1 c ∧ w.cell? ⟨g, 0, none⟩ = some (.string x.1) ∧ w.cell? ⟨g, 1, none⟩ = some (.string x.2) := by
  subst hx
  obtain ⟨g, c, hv, _⟩ := World.ownsRow.form h (by simp)
  subst hv
  have := Own.arc h (i := 0) (x := x) rfl
  exact ⟨g, c, rfl, by simpa using this.1, by simpa using this.2⟩
theorem own_at1 {w : World} {base e : Nat} {v : Value} {xs : List Rel} (h : Own encR 3 e base w v xs) {y x : Rel} (hx : xs = [y, x]) : ∃ g c, v = .slice (some ⟨g, 0, none⟩) 2 c ∧ w.cell? ⟨g, 3, none⟩ = some (.int .i64 x.1) ∧ w.cell? ⟨g, 4, none⟩ = some (.string x.2.1) ∧ w.cell? ⟨g, 5, none⟩ = some (.string x.2.2) := by
  subst hx
  obtain ⟨g, c, hv, _⟩ := World.ownsRow.form h (by simp)
  subst hv
  have := Own.rel h (i := 1) (x := x) rfl
  exact ⟨g, c, rfl, by simpa using this.1, by simpa using this.2.1, by simpa using this.2.2⟩

set_option maxRecDepth 10000 in
set_option maxHeartbeats 2000000 in
theorem known_any (w : World) (hm : Mx w) : Calls Tryz.prog 4 #[] w fun e w' => e = .returned (.bool true) ∧ Below w.heap.size w w' := by
  have HM := Lib.hid hm
  clear hm
  go_enter Tryz.func4, Tryz.ntmps4
  go_wp2_with fail
  refine (parse_any t1 _ HM.out (by decide)).mono ?_
  rintro e w1 ⟨rfl, hb⟩
  rw [known_1]
  have HB1 := Lib.hid hb
  clear hb
  go_wp2_with fail
  refine (arcs_lib _ 1 [(1, sandstone, shale)] _ (Rd.new encR _ [(1, sandstone, shale)] _ _ (by simp) _ rfl (by simp)) (by decide)).mono ?_
  rintro e w2 ⟨v2, rfl, ho2, hb2⟩
  rw [known_3.1, if_pos rfl, known_3.2] at *
  obtain ⟨g2, c2, rfl, p0, p1⟩ := own_at0 ho2 rfl
  have HB2 := Lib.hid (below_step ((HB1.out.alloc HB1.out.size _).alloc (by have := HB1.out.size; simp; omega) _) (by have := HB1.out.size; simp; omega) hb2)
  clear ho2 hb2
  go_wp2_with fail
  refine (normal_lib _ 3 kR _ (Rd.new encR _ kR _ _ rfl _ rfl (by simp [kR])) (.inr ⟨_, _, rfl⟩) (by decide)).mono ?_
  rintro e w3 ⟨v3, rfl, ho3, hb3⟩
  rw [known_4.1, if_pos rfl, known_4.2] at *
  obtain ⟨g3, c3, rfl, r0, r1, r2⟩ := own_at1 ho3 rfl
  have q0 := below_cell hb3 (below_cell ((Below.refl _ _).alloc (Nat.le_refl _) _) p0)
  have q1 := below_cell hb3 (below_cell ((Below.refl _ _).alloc (Nat.le_refl _) _) p1)
  have HB3 := Lib.hid (below_step (HB2.out.alloc HB2.out.size _) (by have := HB2.out.size; simp; omega) hb3)
  clear ho3 hb3 p0 p1
  go_wp2_with fail
  refine (parse_any t2 _ (HM.out.below HB3.out HM.out.pos) (by decide)).mono ?_
  rintro e w4 ⟨rfl, hb4⟩
  rw [known_2]
  have hal := (Below.refl w4.heap.size w4).alloc (Nat.le_refl _) (.cells #[.int .i64 0, .string ⟨#[]⟩, .string ⟨#[]⟩] 25)
  have p0 := below_cell hal (below_cell hb4 q0)
  have p1 := below_cell hal (below_cell hb4 q1)
  have s0 := below_cell hal (below_cell hb4 r0)
  have s1 := below_cell hal (below_cell hb4 r1)
  have s2 := below_cell hal (below_cell hb4 r2)
  clear hal
  have HB4 := Lib.hid (below_step HB3.out HB3.out.size hb4)
  clear hb4 q0 q1 r0 r1 r2
  unfold zeroR
  have hqa : ∀ w, (binOp .eql 49 (.agg #[.string shale, .string sandstone]) (.agg #[.string ⟨#[115, 104, 97, 108, 101]⟩, .string ⟨#[115, 97, 110, 100, 115, 116, 111, 110, 101]⟩])).run Tryz.prog w = .ok (.bool true) w := eqlA (shale, sandstone) (shale, sandstone)
  have hqr : ∀ w, (binOp .eql 25 (.agg #[.int .i64 4, .string ⟨#[97]⟩, .string ⟨#[98]⟩]) (.agg #[.int .i64 4, .string ⟨#[97]⟩, .string ⟨#[98]⟩])).run Tryz.prog w = .ok (.bool true) w := eqlR (4, ⟨#[97]⟩, ⟨#[98]⟩) (4, ⟨#[97]⟩, ⟨#[98]⟩)
  go_wp2_with fail
  go_ret
  exact ⟨rfl, HB4.out.alloc HB4.out.size _⟩
end Go.Proofs.YtpnobpnknlpjnaaGreatDoor
