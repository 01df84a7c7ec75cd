/- A text cut at its blanks. -/
import Derived.Test.YtpnobpnknlpjnaaGreatDoorSpec
import Derived.Lib.SplitLaws
import Derived.Lib.CountLaws
namespace Go.Proofs.YtpnobpnknlpjnaaGreatDoor
open Go Go.RowKit

def cutL : List UInt8 → List (List UInt8)
  | [] => [[]]
  | c :: r => if c = 32 then [] :: cutL r else (c :: (cutL r).head!) :: (cutL r).tail
def glue (p : List UInt8) (l : List (List UInt8)) : List (List UInt8) := (p ++ l.head!) :: l.tail
theorem cutL_ne : ∀ l, cutL l ≠ []
  | [] => by simp [cutL]
  | c :: r => by unfold cutL; split <;> simp
theorem glue_nil (l : List UInt8) : glue [] (cutL l) = cutL l := by
  have h := cutL_ne l
  unfold glue
  cases e : cutL l with
  | nil => exact absurd e h
  | cons p q => rfl
theorem cutL_blank (r : List UInt8) : cutL (32 :: r) = [] :: cutL r := by simp [cutL]
theorem cutL_more {c : UInt8} (h : c ≠ 32) (r : List UInt8) : cutL (c :: r) = glue [c] (cutL r) := by simp [cutL, h, glue]
theorem glue_glue (p q : List UInt8) (l : List (List UInt8)) : glue p (glue q l) = glue (p ++ q) l := by simp [glue, List.head!]
theorem glue_blank (p : List UInt8) (l : List (List UInt8)) : glue p ([] :: l) = p :: l := by simp [glue, List.head!]
theorem splitK_cut : ∀ s : List UInt8, Lib.splitK [32] 0 (Lib.count s [32]) s = cutL s
  | [] => by rw [Lib.count_one]; rfl
  | c :: r => by
    have ih := splitK_cut r
    by_cases h : c = 32
    · subst h
      have hix : Lib.index (32 :: r) [32] = ((0 : Nat) : Int) := by rw [Lib.index]; simp [List.isPrefixOf]
      rw [Lib.count_cons_eq, cutL_blank, ← ih, show 1 + Lib.count r [32] = Lib.count r [32] + 1 by omega, Lib.splitK, hix]
      simp
    · rw [Lib.count_cons_ne c 32 r h, cutL_more h, ← ih]
      have hp : ([32] : List UInt8).isPrefixOf (c :: r) = false := by simp [List.isPrefixOf, Ne.symm h]
      have hix : Lib.index (c :: r) [32] = if Lib.index r [32] == -1 then -1 else Lib.index r [32] + 1 := by rw [Lib.index, hp]; simp
      by_cases hm : Lib.index r [32] = -1
      · have h0 : Lib.count r [32] = 0 := by rw [Lib.count_miss hm]
        rw [h0]; rfl
      · have hge := Lib.index_ge r [32]
        obtain ⟨j, hj⟩ : ∃ j : Nat, Lib.index r [32] = j := ⟨(Lib.index r [32]).toNat, by omega⟩
        have hc : Lib.count r [32] = 1 + Lib.count (r.drop (j + 1)) [32] := by rw [Lib.count_hit (by simp) hj]; rfl
        rw [hc, show 1 + Lib.count (r.drop (j + 1)) [32] = Lib.count (r.drop (j + 1)) [32] + 1 by omega]
        have e1 : Lib.index (c :: r) [32] = ((j + 1 : Nat) : Int) := by rw [hix, if_neg (by simpa using hm), hj]; omega
        rw [Lib.splitK, Lib.splitK, e1, hj]
        have a1 : ((((j + 1 : Nat) : Int)) == -1) = false := by rw [beq_eq_false_iff_ne]; omega
        have a2 : (((j : Nat) : Int) == -1) = false := by rw [beq_eq_false_iff_ne]; omega
        rw [a1, a2]
        simp [glue, List.head!]
/-- The parts between blanks. -/
def wordsS (s : ByteArray) : List ByteArray := (cutL s.data.toList).map fun l => ⟨l.toArray⟩
theorem splitB_words (s : ByteArray) : Lib.splitB ⟨#[32]⟩ 0 (Lib.countB s ⟨#[32]⟩) s = wordsS s := by
  have h := Lib.splitB_data ⟨#[32]⟩ 0 (Lib.countB s ⟨#[32]⟩) s
  rw [show (⟨#[32]⟩ : ByteArray).data.toList = [32] from rfl, show Lib.countB s ⟨#[32]⟩ = Lib.count s.data.toList [32] from rfl, splitK_cut] at h
  unfold wordsS
  rw [← h, List.map_map]
  exact (List.map_id _).symm
end Go.Proofs.YtpnobpnknlpjnaaGreatDoor
