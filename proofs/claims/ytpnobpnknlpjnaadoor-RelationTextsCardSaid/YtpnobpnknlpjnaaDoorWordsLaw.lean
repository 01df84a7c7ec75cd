/- The law's own cut of a text at its blanks. -/
import Derived.Test.YtpnobpnknlpjnaaDoorSplit
import Derived.Test.YtpnobpnknlpjnaaDoorUnits
import Derived.Lib.Strings
set_option linter.unusedVariables false
set_option linter.unusedSimpArgs false
namespace Go.Proofs.YtpnobpnknlpjnaaDoor
open Go Go.RowKit

def mkB (l : List UInt8) : ByteArray := ⟨l.toArray⟩
theorem mkB_data (s : ByteArray) : mkB s.data.toList = s := rfl
/-- ys are cut off; the next piece begins at f; i bytes were looked at. -/
def Cut (s : ByteArray) (ys : List ByteArray) (f i : Nat) : Prop := f ≤ i ∧ i ≤ s.size ∧ wordsS s = ys ++ (glue (s.extract f i).data.toList (cutL (s.data.toList.drop i))).map mkB
theorem ext_nil (s : ByteArray) (i : Nat) : (s.extract i i).data.toList = [] := by rw [Lib.extract_data]; simp
theorem ext_step (s : ByteArray) {f i : Nat} (hf : f ≤ i) (hi : i < s.size) : (s.extract f (i + 1)).data.toList = (s.extract f i).data.toList ++ [s[i]] := by
  rw [Lib.extract_data, Lib.extract_data, show i + 1 - f = (i - f) + 1 by omega, List.take_add_one, List.getElem?_drop, show f + (i - f) = i by omega]
  have : s.data.toList[i]? = some s[i] := by simp [hi]; rfl
  rw [this]; rfl
theorem drop_byte (s : ByteArray) {i : Nat} (hi : i < s.size) : s.data.toList.drop i = s[i] :: s.data.toList.drop (i + 1) := by
  rw [List.drop_eq_getElem_cons (by simpa using hi)]
  rfl
theorem Cut.start (s : ByteArray) : Cut s [] 0 0 := ⟨Nat.le_refl _, Nat.zero_le _, by rw [ext_nil, glue_nil]; rfl⟩
theorem Cut.blank {s : ByteArray} {ys : List ByteArray} {f i : Nat} (h : Cut s ys f i) (hi : i < s.size) (hc : s[i] = 32) : Cut s (ys ++ [s.extract f i]) (i + 1) (i + 1) := by
  refine ⟨Nat.le_refl _, hi, ?_⟩
  rw [h.2.2, drop_byte s hi, hc, cutL_blank, glue_blank, ext_nil, glue_nil, List.map_cons, List.append_assoc]
  rfl
theorem Cut.more {s : ByteArray} {ys : List ByteArray} {f i : Nat} (h : Cut s ys f i) (hi : i < s.size) (hc : s[i] ≠ 32) : Cut s ys f (i + 1) := by
  refine ⟨by have := h.1; omega, hi, ?_⟩
  rw [h.2.2, drop_byte s hi, cutL_more hc, glue_glue, ext_step s h.1 hi]
theorem Cut.stop {s : ByteArray} {ys : List ByteArray} {f : Nat} (h : Cut s ys f s.size) : wordsS s = ys ++ [s.extract f s.size] := by
  rw [h.2.2, List.drop_eq_nil_of_le (by simp)]
  show ys ++ [mkB ((s.extract f s.size).data.toList ++ [])] = _
  rw [List.append_nil]
  rfl
theorem byte_eq {c : UInt8} : ((c.toNat : Int) == 32) = decide (c = 32) := by
  by_cases h : c = 32
  · subst h; rfl
  · have h2 : c.toNat ≠ 32 := fun e => h (UInt8.toNat_inj.1 (by simpa using e))
    have h3 : ¬ (c.toNat : Int) = 32 := by omega
    simp [h, h3]

/-- At 'out = append(out, x)' over names. -/
theorem append_one (base : Nat) (W : World) (xs : List ByteArray) (a : ByteArray) (v : Value) (ho : Own encS 1 9 base W v xs) (hb : base ≤ W.heap.size) (hl : xs.length ≤ 1000000) :
    ∃ v' w', (Builtin.append_ #[36, 36] 36 #[v, .slice (some ⟨W.heap.size, 0, none⟩) 1 1]).run Tryd.prog (W.alloc (.cells #[.string a] 9)) = .ok v' w' ∧
      (Own encS 1 9 base w' v' (xs ++ [a]) ∧ Below base W w') := by
  obtain ⟨v', w', hr, h1, h2, _⟩ := run_append_any (P := Tryd.prog) encS 1 (fun _ => rfl) (fun x u hu => by simp [encS] at hu; subst hu; rfl) (by decide) base 36 36 9 _ 16 Tryd.underlying36 infoS rfl (by decide)
    (W.alloc (.cells #[.string a] 9)) v xs [a] (some ⟨W.heap.size, 0, none⟩) 1 (.inr ⟨_, _, rfl⟩) (World.ownsRow.alloc ho _) (Rd.new encS _ [a] _ _ rfl _ rfl (by simp)) (by simp; omega) (by simp; omega)
  exact ⟨v', w', hr, h1, ((Below.refl base W).alloc hb _).grown h2 (by simp; omega) (fun j hj => (ho.lt j hj).1)⟩

set_option maxRecDepth 10000 in
set_option maxHeartbeats 2000000 in
theorem words_law (s : ByteArray) (w : World) (hs : s.size ≤ 1000) :
    Calls Tryd.prog 17 #[.string s] w fun e w' => ∃ v, e = .returned v ∧ Own encS 1 9 w.heap.size w' v (wordsS s) ∧ Below w.heap.size w w' := by
  go_enter Tryd.func17, Tryd.ntmps17
  go_wp2_with fail
  go_loopw [3, 4, 5] (fun v j i wr => ∃ (f k : Nat) (ys : List ByteArray), f ≤ k ∧ k ≤ s.size ∧ ys.length ≤ k ∧ j = .int .i64 f ∧ i = .int .i64 k ∧ Hid (Cut s ys f k) ∧ Hid (Own encS 1 9 w.heap.size wr v ys) ∧ Hid (Below w.heap.size w wr)) (fun _ _ i _ => s.size - (intOf i).toNat)
  case atStart => exact ⟨0, 0, [], Nat.le_refl _, Nat.zero_le _, by simp, rfl, rfl, Lib.hid (Cut.start s), Lib.hid (Own.nil _ _ _ _ _), Lib.hid (Below.refl _ _)⟩
  case round =>
    obtain ⟨f, k, ys, hf, hk, hy, rfl, rfl, HC, HO, HB⟩ := hrel
    by_cases hlt : k < s.size
    · by_cases hc : s[k] = 32
      · have hb : ((s[k].toNat : Int) == 32) = true := by rw [byte_eq]; simp [hc]
        have HC2 := Lib.hid (HC.out.blank hlt hc)
        have hrun := append_one (w.heap.size) wr ys (s.extract f k) u3 HO.out HB.out.size (by omega)
        have HR := Lib.hid hrun
        clear hrun hc HC
        go_wp2_with (at_builtin; go_must (refine wpList_append_run rfl (.tmp 16) (.tmp 21) 36 rfl _ _ rfl rfl HR.out ?_))
        intro v1 w2 ho hb2
        have HO2 := Lib.hid ho
        have HB2 := Lib.hid (HB.out.trans hb2)
        clear ho hb2 HR HO HB
        go_wp2_with fail
        go_roundw
        case rel => exact ⟨k + 1, k + 1, _, Nat.le_refl _, by omega, by simp; omega, by go_num, by go_num, HC2, HO2, HB2⟩
        case measure => simp [intOf]; omega
      · have hb : ((s[k].toNat : Int) == 32) = false := by rw [byte_eq]; simp [hc]
        have HC2 := Lib.hid (HC.out.more hlt hc)
        clear hc HC
        go_wp2_with fail
        go_roundw
        case rel => exact ⟨f, k + 1, ys, by omega, by omega, by omega, rfl, by go_num, HC2, HO, HB⟩
        case measure => simp [intOf]; omega
    · have hge : ¬ (k : Int) < (s.size : Int) := by omega
      have hks : k = s.size := by omega
      have HC2 := Lib.hid (show wordsS s = ys ++ [s.extract f s.size] by have := HC.out; rw [hks] at this; exact this.stop)
      have hrun := append_one (w.heap.size) wr ys (s.extract f s.size) u3 HO.out HB.out.size (by omega)
      have HR := Lib.hid hrun
      have hfs : f ≤ s.size := by omega
      clear hrun HC hks
      go_wp2_with (at_builtin; go_must (refine wpList_append_run rfl (.tmp 25) (.tmp 29) 36 rfl _ _ rfl rfl HR.out ?_))
      intro v1 w2 ho hb2
      rw [← HC2.out] at ho
      have HO2 := Lib.hid ho
      have HB2 := Lib.hid (HB.out.trans hb2)
      clear ho hb2 HR HO HB
      go_wp2_with fail
      go_ret
      exact ⟨_, rfl, HO2.out, HB2.out⟩
end Go.Proofs.YtpnobpnknlpjnaaDoor
