/- What the functions of layer 20 compute, in plain Lean. -/
import Derived.Test.YtpnobpnknlpjnaaGreatDoorWords
set_option linter.unusedVariables false
set_option linter.unusedSimpArgs false
namespace Go.Proofs.YtpnobpnknlpjnaaGreatDoor
open Go Go.RowKit

/-! ### names -/
def letN (c : Nat) : Bool := (decide (97 ≤ c) && decide (c ≤ 122)) || (decide (65 ≤ c) && decide (c ≤ 90))
def moreN (c : Nat) : Bool := (decide (48 ≤ c) && decide (c ≤ 57)) || decide (c = 95)
def okAt (i : Nat) (c : UInt8) : Bool := letN c.toNat || (decide (0 < i) && moreN c.toNat)
def okFrom : Nat → List UInt8 → Bool
  | _, [] => true
  | i, c :: r => okAt i c && okFrom (i + 1) r
def isNameS (s : ByteArray) : Bool := (decide (1 ≤ s.size) && decide (s.size ≤ 32)) && okFrom 0 s.data.toList
theorem okFrom_step {s : ByteArray} {k : Nat} (h : k < s.size) : okFrom k (s.data.toList.drop k) = (okAt k s[k] && okFrom (k + 1) (s.data.toList.drop (k + 1))) := by
  have : s.data.toList.drop k = s[k] :: s.data.toList.drop (k + 1) := by
    rw [List.drop_eq_getElem_cons (by simpa using h)]
    rfl
  rw [this]; rfl
theorem okFrom_end (s : ByteArray) : okFrom s.size (s.data.toList.drop s.size) = true := by
  rw [List.drop_eq_nil_of_le (by simp)]; rfl
theorem okAt_let {i : Nat} {c : UInt8} (h : (97 ≤ (c.toNat : Int) ∧ (c.toNat : Int) ≤ 122) ∨ (65 ≤ (c.toNat : Int) ∧ (c.toNat : Int) ≤ 90)) : okAt i c = true := by
  unfold okAt letN
  have : (97 ≤ c.toNat ∧ c.toNat ≤ 122) ∨ (65 ≤ c.toNat ∧ c.toNat ≤ 90) := by omega
  rcases this with ⟨a, b⟩ | ⟨a, b⟩ <;> simp [a, b]
theorem okAt_more {i : Nat} {c : UInt8} (hi : 0 < i) (h : (48 ≤ (c.toNat : Int) ∧ (c.toNat : Int) ≤ 57) ∨ (c.toNat : Int) = 95) : okAt i c = true := by
  unfold okAt moreN
  have : (48 ≤ c.toNat ∧ c.toNat ≤ 57) ∨ c.toNat = 95 := by omega
  rcases this with ⟨a, b⟩ | a <;> simp [hi, a] <;> simp_all
theorem okAt_first {c : UInt8} (h : ¬ (97 ≤ (c.toNat : Int) ∧ (c.toNat : Int) ≤ 122) ∧ ¬ (65 ≤ (c.toNat : Int) ∧ (c.toNat : Int) ≤ 90)) : okAt 0 c = false := by
  unfold okAt letN
  simp; omega
theorem okAt_no {i : Nat} {c : UInt8} (h : ¬ (97 ≤ (c.toNat : Int) ∧ (c.toNat : Int) ≤ 122) ∧ ¬ (65 ≤ (c.toNat : Int) ∧ (c.toNat : Int) ≤ 90) ∧ ¬ (48 ≤ (c.toNat : Int) ∧ (c.toNat : Int) ≤ 57) ∧ ¬ (c.toNat : Int) = 95) : okAt i c = false := by
  unfold okAt letN moreN
  simp; omega

/-! ### relations that are right: the codes of the errors -/
def checkS (x : Rel) : Int := if x.1 < 1 ∨ 4 < x.1 then 12 else if isNameS x.2.1 = false ∨ isNameS x.2.2 = false then 8 else if x.2.1 = x.2.2 then 14 else 0
def firstS : List Rel → Int
  | [] => 0
  | x :: r => if checkS x = 0 then firstS r else checkS x
def checkAllS (l : List Rel) : Int := if 200 < l.length then 4 else firstS l
def rltS : Rel → Rel → Bool := K.lex K.ilt (K.lex K.slt K.slt)
def altS : Arc → Arc → Bool := K.lex K.slt K.slt
theorem sto_rlt : K.STO rltS := K.sto_lex K.sto_int (K.sto_lex K.sto_str K.sto_str)
theorem sto_alt : K.STO altS := K.sto_lex K.sto_str K.sto_str
def unitS (n : Int) : ByteArray := ⟨#[UInt8.ofNat (97 + n % 8).toNat]⟩
def wordS (k : Int) : ByteArray := if k = 1 then ⟨#[111, 118, 101, 114, 108, 105, 101, 115]⟩ else if k = 2 then ⟨#[99, 117, 116, 115]⟩ else if k = 3 then ⟨#[105, 110, 116, 114, 117, 100, 101, 115]⟩ else if k = 4 then ⟨#[97, 103, 97, 105, 110, 115, 116]⟩ else ⟨#[]⟩
theorem range_u8 (c : UInt8) : ((c.toNat : Int) < 48 ∨ (48 ≤ (c.toNat : Int) ∧ (c.toNat : Int) ≤ 57) ∨ (57 < (c.toNat : Int) ∧ (c.toNat : Int) < 65) ∨ (65 ≤ (c.toNat : Int) ∧ (c.toNat : Int) ≤ 90) ∨ (90 < (c.toNat : Int) ∧ (c.toNat : Int) < 95) ∨ (c.toNat : Int) = 95 ∨ (95 < (c.toNat : Int) ∧ (c.toNat : Int) < 97) ∨ (97 ≤ (c.toNat : Int) ∧ (c.toNat : Int) ≤ 122) ∨ 122 < (c.toNat : Int)) := by omega
/-- The relation of a description, and those of a list. -/
def mkS (d : Int × Int × Int) : Rel := (1 + d.1 % 4, unitS d.2.1, unitS (if d.2.2 % 8 = d.2.1 % 8 then d.2.2 % 8 + 1 else d.2.2 % 8))
def makeS (l : List (Int × Int × Int)) : List Rel := (l.take 12).map mkS
/-! ### comparing -/
def cmpI (a b : Int) : Int := if a < b then -1 else if b < a then 1 else 0
def cmpS (a b : ByteArray) : Int := if K.slt a b = true then -1 else if K.slt b a = true then 1 else 0
def orS : List Int → Int
  | [] => 0
  | x :: r => if x = 0 then orS r else x
def cmpR (x y : Rel) : Int := orS [cmpI x.1 y.1, cmpS x.2.1 y.2.1, cmpS x.2.2 y.2.2]
def cmpA (x y : Arc) : Int := orS [cmpS x.1 y.1, cmpS x.2 y.2]
theorem cmpS_neg (a b : ByteArray) : (cmpS a b < 0) ↔ K.slt a b = true := by
  unfold cmpS
  split
  · simp [*]
  · split <;> simp [*]
theorem cmpS_zero (a b : ByteArray) : (cmpS a b = 0) ↔ a = b := by
  unfold cmpS
  split
  · rename_i h
    constructor
    · intro e; cases e
    · rintro rfl; rw [K.slt_irrefl] at h; cases h
  · rename_i h
    split
    · rename_i h2
      constructor
      · intro e; cases e
      · rintro rfl; rw [K.slt_irrefl] at h2; cases h2
    · rename_i h2
      exact ⟨fun _ => K.slt_total (by simpa using h) (by simpa using h2), fun _ => rfl⟩
theorem cmpI_neg (a b : Int) : (cmpI a b < 0) ↔ a < b := by unfold cmpI; split <;> (try split) <;> simp_all
theorem cmpI_zero (a b : Int) : (cmpI a b = 0) ↔ a = b := by unfold cmpI; split <;> (try split) <;> simp_all <;> omega
theorem cmpA_eq (x y : Arc) : cmpA x y = if x.1 = y.1 then cmpS x.2 y.2 else cmpS x.1 y.1 := by
  have h1 := cmpS_zero x.1 y.1
  unfold cmpA
  simp only [orS]
  by_cases e : x.1 = y.1
  · rw [if_pos (h1.2 e), if_pos e]; split <;> simp_all
  · rw [if_neg (fun h => e (h1.1 h)), if_neg e]
theorem cmpA_neg (x y : Arc) : cmpA x y < 0 ↔ altS x y = true := by
  rw [cmpA_eq]
  unfold altS K.lex
  by_cases e : x.1 = y.1
  · rw [if_pos e, cmpS_neg, e, K.slt_irrefl]; simp
  · rw [if_neg e, cmpS_neg]
    cases h : K.slt x.1 y.1 with
    | true => simp
    | false =>
      have : K.slt y.1 x.1 = true := by
        cases h' : K.slt y.1 x.1 with
        | true => rfl
        | false => exact absurd (K.slt_total h h') e
      simp [this]
theorem cmpR_eq (x y : Rel) : cmpR x y = if x.1 = y.1 then cmpA x.2 y.2 else cmpI x.1 y.1 := by
  have h1 := cmpI_zero x.1 y.1
  rw [show cmpR x y = if cmpI x.1 y.1 = 0 then cmpA x.2 y.2 else cmpI x.1 y.1 from rfl]
  by_cases e : x.1 = y.1
  · rw [if_pos (h1.2 e), if_pos e]
  · rw [if_neg (fun h => e (h1.1 h)), if_neg e]
theorem cmpR_neg (x y : Rel) : cmpR x y < 0 ↔ rltS x y = true := by
  rw [cmpR_eq]
  unfold rltS
  rw [show K.lex K.ilt (K.lex K.slt K.slt) x y = (K.ilt x.1 y.1 || (!K.ilt y.1 x.1 && altS x.2 y.2)) from rfl]
  by_cases e : x.1 = y.1
  · rw [if_pos e, cmpA_neg, e]; simp [K.ilt]
  · rw [if_neg e, cmpI_neg]
    by_cases h : x.1 < y.1
    · simp [h, K.ilt]
    · have : y.1 < x.1 := by omega
      simp [h, K.ilt, this]
end Go.Proofs.YtpnobpnknlpjnaaGreatDoor
