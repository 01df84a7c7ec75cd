/- Words for the walks over layer 20: how relations, arcs and names lie in memory, read and owned. -/
import Derived.Test.YtpnobpnknlpjnaaGreatDoorProg
import Derived.Test.YtpnobpnknlpjnaaGreatDoorPlain
import Derived.WalkKit
import Derived.Deep.QuietTactic
import Derived.BigQuiet
import Derived.Outline
import Derived.Deep.LoopGhost
import Derived.Laws.Rows
import Derived.Laws.OwnMore
import Derived.WalkSpells
import Derived.WalkLawsBesides
import Derived.Below
import Derived.OwnWalk
import Derived.Lib.Hide
set_option linter.unusedVariables false
set_option linter.unusedSimpArgs false
namespace Go.Proofs.YtpnobpnknlpjnaaGreatDoor
open Go Go.RowKit

/-- A relation: kind, upper, lower. An arc: lower, upper. -/
abbrev Rel := Int × ByteArray × ByteArray
abbrev Arc := ByteArray × ByteArray
def encR (x : Rel) : List Value := [.int .i64 x.1, .string x.2.1, .string x.2.2]
def encA (x : Arc) : List Value := [.string x.1, .string x.2]
def encS (x : ByteArray) : List Value := [.string x]
def encI (x : Int) : List Value := [.int .i64 x]
def enc2 (x : Int × Int) : List Value := [.int .i64 x.1, .int .i64 x.2]
def enc3 (x : Int × Int × Int) : List Value := [.int .u8 x.1, .int .u8 x.2.1, .int .u8 x.2.2]
def aggR (x : Rel) : Value := .agg #[.int .i64 x.1, .string x.2.1, .string x.2.2]
def aggA (x : Arc) : Value := .agg #[.string x.1, .string x.2]

/-- The cells of a list, one element behind the other. -/
def flat {α : Type} (enc : α → List Value) (xs : List α) : List Value := xs.flatMap enc
theorem flat_length {α : Type} {enc : α → List Value} {k : Nat} (hk : ∀ x, (enc x).length = k) : ∀ xs : List α, (flat enc xs).length = xs.length * k
  | [] => by simp [flat]
  | x :: xs => by
    have ih := flat_length hk xs
    unfold flat at *
    rw [List.flatMap_cons, List.length_append, ih, hk, List.length_cons, Nat.add_mul]; omega
theorem flat_append {α : Type} (enc : α → List Value) (xs ys : List α) : flat enc (xs ++ ys) = flat enc xs ++ flat enc ys := by simp [flat]
theorem flat_get {α : Type} {enc : α → List Value} {k : Nat} (hk : ∀ x, (enc x).length = k) : ∀ (xs : List α) (i : Nat) (x : α), xs[i]? = some x → ∀ j, j < k → (flat enc xs)[i * k + j]? = (enc x)[j]?
  | [], i, x, h, j, hj => by simp at h
  | y :: ys, 0, x, h, j, hj => by
    simp at h; subst h
    simp only [flat, List.flatMap_cons, Nat.zero_mul, Nat.zero_add]
    rw [List.getElem?_append_left (by rw [hk]; exact hj)]
  | y :: ys, i + 1, x, h, j, hj => by
    have ih := flat_get hk ys i x (by simpa using h) j hj
    simp only [flat, List.flatMap_cons] at *
    rw [List.getElem?_append_right (by rw [hk, Nat.add_mul]; omega), hk, show (i + 1) * k + j - k = i * k + j by rw [Nat.add_mul]; omega]
    exact ih

/-- A slice (its address and elements) that is read. -/
def Rd {α : Type} (enc : α → List Value) (w : World) (A : Option Addr) (xs : List α) : Prop :=
  xs.length ≤ 140737488355328 ∧ (0 < xs.length → ∃ b o, A = some ⟨b, o, none⟩ ∧ ∀ j u, (flat enc xs)[j]? = some u → w.cell? ⟨b, o + j, none⟩ = some u)
theorem Rd.nil {α : Type} (enc : α → List Value) (w : World) (A : Option Addr) : Rd enc w A [] := ⟨by simp, fun h => absurd h (by simp)⟩
theorem Rd.keep {α : Type} {enc : α → List Value} {w w' : World} {A : Option Addr} {xs : List α} (h : Rd enc w A xs) (hb : ∀ a u, w.cell? a = some u → w'.cell? a = some u) : Rd enc w' A xs :=
  ⟨h.1, fun h0 => let ⟨b, o, e, hc⟩ := h.2 h0; ⟨b, o, e, fun j u hj => hb _ _ (hc j u hj)⟩⟩
theorem below_cell {w w' : World} (hb : Below w.heap.size w w') {a : Addr} {u : Value} (h : w.cell? a = some u) : w'.cell? a = some u :=
  (hb.cell (World.block_lt_of_cell? w a h)).trans h
theorem Rd.below {α : Type} {enc : α → List Value} {w w' : World} {A : Option Addr} {xs : List α} (h : Rd enc w A xs) (hb : Below w.heap.size w w') : Rd enc w' A xs :=
  h.keep fun _ _ hc => below_cell hb hc
theorem Rd.alloc {α : Type} {enc : α → List Value} {w : World} {A : Option Addr} {xs : List α} (h : Rd enc w A xs) (o : Obj) : Rd enc (w.alloc o) A xs :=
  h.below ((Below.refl _ _).alloc (Nat.le_refl _) o)
theorem Rd.drew {α : Type} {enc : α → List Value} {w : World} {A : Option Addr} {xs : List α} (h : Rd enc w A xs) (n : Nat) : Rd enc (w.drewN n) A xs :=
  h.keep fun a u hc => by rw [World.cell?_drewN]; exact hc
theorem lt_of_get {α : Type} {xs : List α} {i : Nat} {x : α} (h : xs[i]? = some x) : i < xs.length := by
  rcases Nat.lt_or_ge i xs.length with h' | h'
  · exact h'
  · rw [List.getElem?_eq_none h'] at h; cases h
theorem get_of_lt {α : Type} {xs : List α} {i : Nat} (h : i < xs.length) : ∃ x, xs[i]? = some x := ⟨_, List.getElem?_eq_getElem h⟩
/-- A relation of a slice: its three cells. -/
theorem Rd.rel {w : World} {A : Option Addr} {xs : List Rel} (h : Rd encR w A xs) {i : Nat} {x : Rel} (hx : xs[i]? = some x) :
    ∃ b o, A = some ⟨b, o, none⟩ ∧ w.cell? ⟨b, o + i * 3, none⟩ = some (.int .i64 x.1) ∧ w.cell? ⟨b, o + i * 3 + 1, none⟩ = some (.string x.2.1) ∧ w.cell? ⟨b, o + i * 3 + 2, none⟩ = some (.string x.2.2) := by
  obtain ⟨b, o, e, hc⟩ := h.2 (by have := lt_of_get hx; omega)
  refine ⟨b, o, e, ?_, ?_, ?_⟩
  · exact hc (i * 3) _ (flat_get (k := 3) (fun _ => rfl) xs i x hx 0 (by omega))
  · exact hc (i * 3 + 1) _ (flat_get (k := 3) (fun _ => rfl) xs i x hx 1 (by omega))
  · exact hc (i * 3 + 2) _ (flat_get (k := 3) (fun _ => rfl) xs i x hx 2 (by omega))
theorem Rd.arc {w : World} {A : Option Addr} {xs : List Arc} (h : Rd encA w A xs) {i : Nat} {x : Arc} (hx : xs[i]? = some x) :
    ∃ b o, A = some ⟨b, o, none⟩ ∧ w.cell? ⟨b, o + i * 2, none⟩ = some (.string x.1) ∧ w.cell? ⟨b, o + i * 2 + 1, none⟩ = some (.string x.2) := by
  obtain ⟨b, o, e, hc⟩ := h.2 (by have := lt_of_get hx; omega)
  refine ⟨b, o, e, ?_, ?_⟩
  · exact hc (i * 2) _ (flat_get (k := 2) (fun _ => rfl) xs i x hx 0 (by omega))
  · exact hc (i * 2 + 1) _ (flat_get (k := 2) (fun _ => rfl) xs i x hx 1 (by omega))
theorem Rd.two {w : World} {A : Option Addr} {xs : List (Int × Int)} (h : Rd enc2 w A xs) {i : Nat} {x : Int × Int} (hx : xs[i]? = some x) :
    ∃ b o, A = some ⟨b, o, none⟩ ∧ w.cell? ⟨b, o + i * 2, none⟩ = some (.int .i64 x.1) ∧ w.cell? ⟨b, o + i * 2 + 1, none⟩ = some (.int .i64 x.2) := by
  obtain ⟨b, o, e, hc⟩ := h.2 (by have := lt_of_get hx; omega)
  refine ⟨b, o, e, ?_, ?_⟩
  · exact hc (i * 2) _ (flat_get (k := 2) (fun _ => rfl) xs i x hx 0 (by omega))
  · exact hc (i * 2 + 1) _ (flat_get (k := 2) (fun _ => rfl) xs i x hx 1 (by omega))
theorem Rd.seen {w : World} {A : Option Addr} {xs : List (Int × Int × Int)} (h : Rd enc3 w A xs) {i : Nat} {x : Int × Int × Int} (hx : xs[i]? = some x) :
    ∃ b o, A = some ⟨b, o, none⟩ ∧ w.cell? ⟨b, o + i * 3, none⟩ = some (.int .u8 x.1) ∧ w.cell? ⟨b, o + i * 3 + 1, none⟩ = some (.int .u8 x.2.1) ∧ w.cell? ⟨b, o + i * 3 + 2, none⟩ = some (.int .u8 x.2.2) := by
  obtain ⟨b, o, e, hc⟩ := h.2 (by have := lt_of_get hx; omega)
  refine ⟨b, o, e, ?_, ?_, ?_⟩
  · exact hc (i * 3) _ (flat_get (k := 3) (fun _ => rfl) xs i x hx 0 (by omega))
  · exact hc (i * 3 + 1) _ (flat_get (k := 3) (fun _ => rfl) xs i x hx 1 (by omega))
  · exact hc (i * 3 + 2) _ (flat_get (k := 3) (fun _ => rfl) xs i x hx 2 (by omega))
theorem Rd.str {w : World} {A : Option Addr} {xs : List ByteArray} (h : Rd encS w A xs) {i : Nat} {x : ByteArray} (hx : xs[i]? = some x) :
    ∃ b o, A = some ⟨b, o, none⟩ ∧ w.cell? ⟨b, o + i, none⟩ = some (.string x) := by
  obtain ⟨b, o, e, hc⟩ := h.2 (by have := lt_of_get hx; omega)
  refine ⟨b, o, e, ?_⟩
  have := flat_get (enc := encS) (k := 1) (fun _ => rfl) xs i x hx 0 (by omega)
  rw [Nat.mul_one, Nat.add_zero] at this
  exact hc i _ this
theorem Rd.num {w : World} {A : Option Addr} {xs : List Int} (h : Rd encI w A xs) {i : Nat} {x : Int} (hx : xs[i]? = some x) :
    ∃ b o, A = some ⟨b, o, none⟩ ∧ w.cell? ⟨b, o + i, none⟩ = some (.int .i64 x) := by
  obtain ⟨b, o, e, hc⟩ := h.2 (by have := lt_of_get hx; omega)
  refine ⟨b, o, e, ?_⟩
  have := flat_get (enc := encI) (k := 1) (fun _ => rfl) xs i x hx 0 (by omega)
  rw [Nat.mul_one, Nat.add_zero] at this
  exact hc i _ this

/-- A slice of the call's own: block, elements, what lies behind them. -/
def Own {α : Type} (enc : α → List Value) (k e base : Nat) (w : World) (v : Value) (xs : List α) : Prop := w.ownsRow base e k v xs.length (flat enc xs)
theorem Own.rd {α : Type} {enc : α → List Value} {k e base : Nat} {w : World} {v : Value} {xs : List α} (h : Own enc k e base w v xs) (hl : xs.length ≤ 140737488355328) :
    ∃ A c, v = .slice A xs.length c ∧ xs.length ≤ c ∧ Rd enc w A xs := by
  rcases h.2 with ⟨rfl, h1⟩ | ⟨g, cap, cur, rfl, hb, hh, h1, h2, h3⟩
  · rw [h1]
    have : xs = [] := List.eq_nil_of_length_eq_zero h1
    subst this
    exact ⟨none, 0, rfl, Nat.le_refl _, Rd.nil _ _ _⟩
  · refine ⟨_, cap, rfl, h1, hl, fun _ => ⟨g, 0, rfl, fun j u hj => ?_⟩⟩
    have := World.ownsRow.cells h (g := g) rfl j u hj
    have ha : (⟨g, 0, none⟩ : Addr).add j = ⟨g, 0 + j, none⟩ := by unfold Addr.add; split <;> simp_all
    rwa [ha] at this
theorem Own.view {α : Type} {enc : α → List Value} {k e base : Nat} {w : World} {v : Value} {xs : List α} (h : Own enc k e base w v xs) (hl : xs.length ≤ 140737488355328) :
    ∃ A c, v = .slice A xs.length c ∧ Rd enc w A xs ∧ (A = none ∨ ∃ b o, A = some ⟨b, o, none⟩) := by
  obtain ⟨A, c, hv, _, hr⟩ := h.rd hl
  refine ⟨A, c, hv, hr, ?_⟩
  rcases h.2 with ⟨rfl, h1⟩ | ⟨g, cap, cur, rfl, _⟩
  · injection hv with h1 h2 h3; exact .inl h1.symm
  · injection hv with h1 h2 h3; exact .inr ⟨g, 0, h1.symm⟩

theorem ret_b {a b : Bool} (h : a = b) : Ending.returned (.bool a) = .returned (.bool b) := by rw [h]
theorem ret_i {k : IntKind} {a b : Int} (h : a = b) : Ending.returned (.int k a) = .returned (.int k b) := by rw [h]
theorem ret_s {a b : ByteArray} (h : a = b) : Ending.returned (.string a) = .returned (.string b) := by rw [h]
theorem below_drewN {B : Nat} {w W : World} (h : Below B w W) (n : Nat) : Below B w (W.drewN n) := ⟨h.os, h.tape, h.output, h.size, h.block⟩
/-- One call behind another. -/
theorem below_step {B : Nat} {w w1 w2 : World} (h : Below B w w1) (hB : B ≤ w1.heap.size) (k : Below w1.heap.size w1 w2) : Below B w w2 :=
  h.trans (k.mono hB)
end Go.Proofs.YtpnobpnknlpjnaaGreatDoor
