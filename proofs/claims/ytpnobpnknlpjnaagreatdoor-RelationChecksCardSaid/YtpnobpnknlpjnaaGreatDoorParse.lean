/- relation.Parse. -/
import Derived.Test.YtpnobpnknlpjnaaGreatDoorSplit
import Derived.Test.YtpnobpnknlpjnaaGreatDoorOwn
import Derived.Test.YtpnobpnknlpjnaaGreatDoorBefore
import Derived.Test.YtpnobpnknlpjnaaGreatDoorLays
import Derived.Shelf.Strings.SplitShaped
import Derived.Shelf.Slices.Turned
import Derived.Deep.RegionHeld3
import Derived.StillTactics
set_option linter.unusedVariables false
set_option linter.unusedSimpArgs false
namespace Go.Proofs.YtpnobpnknlpjnaaGreatDoor
open Go Go.RowKit

def kindWords : List ByteArray := [wordS 1, wordS 2, wordS 3, wordS 4]
def zeroR : Rel := (0, ⟨#[]⟩, ⟨#[]⟩)
def parseL : List ByteArray → Rel × Int
  | [a, m, b] => if Lib.containsS [a, m, b] ⟨#[]⟩ = true then (zeroR, 15) else if Lib.idxOfS kindWords m = -1 then (zeroR, 15) else if checkS (1 + Lib.idxOfS kindWords m, a, b) = 0 then ((1 + Lib.idxOfS kindWords m, a, b), 0) else (zeroR, checkS (1 + Lib.idxOfS kindWords m, a, b))
  | _ => (zeroR, 15)
def parseS (s : ByteArray) : Rel × Int := parseL (wordsS s)
/-- The longest text that package bytealg searches in one step is some number. -/
def Mx (w : World) : Prop := ∃ m : Int, w.cell? ⟨0, 0, none⟩ = some (.int .i64 m)
theorem Mx.below {w w' : World} {B : Nat} (h : Mx w) (hb : Below B w w') (h0 : 0 < B) : Mx w' := by
  obtain ⟨m, hm⟩ := h
  exact ⟨m, (hb.cell h0).trans hm⟩
theorem Mx.pos {w : World} (h : Mx w) : 0 < w.heap.size := by
  obtain ⟨m, hm⟩ := h
  exact World.block_lt_of_cell? w _ hm
theorem Mx.of {w : World} (h : w.ShapedOpen Tryz.prog) : Mx w := Tryz.lSplitM.s1_3 w h
theorem split_any (s : ByteArray) (w : World) (hm : Mx w) (hs : s.size < 4294967281) :
    Calls Tryz.prog 33 #[.string s, .string ⟨#[32]⟩] w fun e w' => e = .returned (.slice (some ⟨w.heap.size, 0, none⟩) (wordsS s).length (wordsS s).length) ∧ w' = w.alloc (.cells (flat encS (wordsS s)).toArray 9) := by
  obtain ⟨m, hm⟩ := hm
  have h := Any.strings_Split Tryz.lSplit Tryz.lSplitM.i9 s ⟨#[32]⟩ m w hs hm (by decide)
  rw [splitB_words] at h
  have hl := Lib.splitB_all ⟨#[32]⟩ (by decide) 0 (Lib.countB s ⟨#[32]⟩) s rfl
  rw [splitB_words] at hl
  rw [← hl] at h
  have hf : (wordsS s).map Value.string = flat encS (wordsS s) := by
    induction wordsS s with
    | nil => rfl
    | cons a r ih => simp only [List.map_cons, ih, flat, List.flatMap_cons]; rfl
  rw [hf] at h
  exact h
theorem three_of {l : List ByteArray} (h : l.length = 3) : ∃ a m b, l = [a, m, b] := by
  match l, h with
  | [a, m, b], _ => exact ⟨a, m, b, rfl⟩
theorem parseL_not {l : List ByteArray} (h : l.length ≠ 3) : parseL l = (zeroR, 15) := by
  unfold parseL
  split
  · simp at h
  · rfl
theorem words_len (s : ByteArray) : (wordsS s).length ≤ s.size + 1 := by
  have : ∀ l : List UInt8, (cutL l).length ≤ l.length + 1 := by
    intro l
    induction l with
    | nil => simp [cutL]
    | cons c r ih => unfold cutL; split <;> simp <;> omega
  have h := this s.data.toList
  unfold wordsS
  simpa using h
theorem rd_getD {w : World} {b o : Nat} {l : List ByteArray} (h : Rd encS w (some ⟨b, o, none⟩) l) : ∀ j, j < l.length → w.cell? ⟨b, o + j, none⟩ = some (.string (l.getD j ByteArray.empty)) := by
  intro j hj
  obtain ⟨x, hx⟩ := get_of_lt hj
  obtain ⟨b', o', e, hc⟩ := h.str hx
  cases e
  rw [List.getD_eq_getElem?_getD, hx]
  exact hc
theorem contains_any (b o c : Nat) (l : List ByteArray) (x : ByteArray) (w : World) (h : Rd encS w (some ⟨b, o, none⟩) l) :
    Calls Tryz.prog 34 #[.slice (some ⟨b, o, none⟩) l.length c, .string x] w fun e w' => e = .returned (.bool (Lib.containsS l x)) ∧ w' = w := by
  have := Any.slices_Contains_string Tryz.lContains b o l.length c l x w (Nat.le_refl _) (by have := h.1; omega) (rd_getD h)
  rwa [List.take_length] at this
theorem index_any (b o c : Nat) (l : List ByteArray) (x : ByteArray) (w : World) (h : Rd encS w (some ⟨b, o, none⟩) l) :
    Calls Tryz.prog 36 #[.slice (some ⟨b, o, none⟩) l.length c, .string x] w fun e w' => e = .returned (.int .i64 (Lib.idxOfS l x)) ∧ w' = w := by
  have := Any.slices_Index_string Tryz.lIndex b o l.length c l x w (Nat.le_refl _) (by have := h.1; omega) (rd_getD h)
  rwa [List.take_length] at this
theorem words_size (s p : ByteArray) (h : p ∈ wordsS s) : p.size ≤ s.size := by
  have : ∀ l : List UInt8, ∀ q ∈ cutL l, q.length ≤ l.length := by
    intro l
    induction l with
    | nil => intro q hq; simp [cutL] at hq; simp [hq]
    | cons c r ih =>
      intro q hq
      unfold cutL at hq
      have hne := cutL_ne r
      split at hq
      · rcases List.mem_cons.1 hq with rfl | hq
        · simp
        · have := ih q hq; simp; omega
      · cases e : cutL r with
        | nil => exact absurd e hne
        | cons u t =>
          rw [e] at hq ih
          rcases List.mem_cons.1 hq with rfl | hq
          · have := ih u (by simp); simpa [List.head!] using this
          · have := ih q (List.mem_cons_of_mem _ hq); simp; omega
  obtain ⟨l, hl, rfl⟩ := List.mem_map.1 h
  have h9 := this _ _ hl
  rw [show (⟨l.toArray⟩ : ByteArray).size = l.length from List.size_toArray ..]
  rw [show s.data.toList.length = s.size from Array.length_toList ..] at h9
  exact h9
def zob (x : Rel) : Array Value := #[.int .i64 x.1, .string x.2.1, .string x.2.2]
theorem rel_row {W : World} {g : Nat} {x : Rel} (h : W.heap[g]? = some (.cells #[.int .i64 x.1, .string x.2.1, .string x.2.2] 25 (0, 0))) :
    (W.cell? ⟨g, 0, none⟩ = some (.int .i64 x.1) ∧ W.cell? ⟨g, 1, none⟩ = some (.string x.2.1) ∧ W.cell? ⟨g, 2, none⟩ = some (.string x.2.2)) ∧ ∀ j, W.frozen? ⟨g, j, none⟩ = false :=
  ⟨⟨(cell_of_row W g 0 _ _ _ h).trans rfl, (cell_of_row W g 1 _ _ _ h).trans rfl, (cell_of_row W g 2 _ _ _ h).trans rfl⟩, fun j => frozen_of_row W g j _ _ h⟩
def kindV : Value := .agg #[.string ⟨#[111, 118, 101, 114, 108, 105, 101, 115]⟩, .string ⟨#[99, 117, 116, 115]⟩, .string ⟨#[105, 110, 116, 114, 117, 100, 101, 115]⟩, .string ⟨#[97, 103, 97, 105, 110, 115, 116]⟩]
set_option maxRecDepth 10000 in
set_option maxHeartbeats 1000000 in
theorem kinds_any (w : World) : Calls Tryz.prog 35 #[] w fun e w' => e = .returned kindV ∧ Below w.heap.size w w' := by
  go_enter Tryz.func35, Tryz.ntmps35
  go_wp2_with fail
  exact bodyPost_ret (v := kindV) (by simp [results, Tryz.results35, go_sem, kindV]) rfl ⟨rfl, (Below.refl _ _).alloc (Nat.le_refl _) _⟩

theorem below_two (w : World) (a b : Obj) : Below w.heap.size w ((w.alloc a).alloc b) := ((Below.refl _ _).alloc (Nat.le_refl _) _).alloc (by simp) _
set_option maxRecDepth 10000 in
set_option maxHeartbeats 2000000 in
theorem parse_any (s : ByteArray) (w : World) (hm : Mx w) (hs : s.size ≤ 1000) :
    Calls Tryz.prog 16 #[.string s] w fun e w' => e = .returned (.tuple #[.agg #[.int .i64 (parseS s).1.1, .string (parseS s).1.2.1, .string (parseS s).1.2.2], .int .i64 (parseS s).2]) ∧ Below w.heap.size w w' := by
  have HSP := Lib.hid (fun W h => split_any s W h (by omega))
  have HM := Lib.hid (hm.below ((Below.refl w.heap.size w).alloc (Nat.le_refl _) (.cells #[.int .i64 0, .string ⟨#[]⟩, .string ⟨#[]⟩] 25)) hm.pos)
  clear hm
  have hwl := words_len s
  by_cases h3 : (wordsS s).length = 3
  case neg =>
    rw [show parseS s = (zeroR, 15) from parseL_not h3]
    have hb : (((wordsS s).length : Int) != 3) = true := by simp; omega
    clear h3
    go_enter Tryz.func16, Tryz.ntmps16
    go_wp2_with fail
    refine (HSP.out _ HM.out).mono ?_
    rintro e w1 ⟨rfl, rfl⟩
    go_wp2_with fail
    exact bodyPost_ret (v := .tuple #[.agg #[.int .i64 0, .string ⟨#[]⟩, .string ⟨#[]⟩], .int .i64 15]) (by simp [results, Tryz.results16, go_sem]) rfl ⟨rfl, below_two _ _ _⟩
  obtain ⟨a, m, b, hl⟩ := three_of h3
  have hR : parseS s = parseL [a, m, b] := by rw [parseS, hl]
  rw [hl] at HSP
  have hsa : a.size ≤ 9223372036854775807 := by have := words_size s a (by rw [hl]; simp); omega
  have hsb : b.size ≤ 9223372036854775807 := by have := words_size s b (by rw [hl]; simp); omega
  have hx0 : -1 ≤ Lib.idxOfS kindWords m ∧ Lib.idxOfS kindWords m ≤ 3 := by
    unfold Lib.idxOfS kindWords
    simp only [Lib.idxFromS]
    repeat (split; omega)
    omega
  clear h3 hwl hl
  cases hc : Lib.containsS [a, m, b] ⟨#[]⟩ with
  | true =>
    rw [show parseS s = (zeroR, 15) by rw [hR]; simp [parseL, hc]]
    have HC := Lib.hid hc
    clear hR hc
    go_enter Tryz.func16, Tryz.ntmps16
    go_wp2_with fail
    refine (HSP.out _ HM.out).mono ?_
    rintro e w1 ⟨rfl, rfl⟩
    go_wp2_with fail
    refine (contains_any _ _ 3 [a, m, b] ⟨#[]⟩ _ (Rd.new encS _ [a, m, b] _ _ (by simp) _ rfl (by simp))).mono ?_
    rintro e w1 ⟨rfl, rfl⟩
    rw [HC.out]
    go_wp2_with fail
    exact bodyPost_ret (v := .tuple #[.agg #[.int .i64 0, .string ⟨#[]⟩, .string ⟨#[]⟩], .int .i64 15]) (by simp [results, Tryz.results16, go_sem]) rfl ⟨rfl, below_two _ _ _⟩
  | false =>
    have HC := Lib.hid hc
    have hkk : ∀ W b o c, Rd encS W (some ⟨b, o, none⟩) kindWords → Calls Tryz.prog 36 #[.slice (some ⟨b, o, none⟩) 4 c, .string m] W fun e w' => e = .returned (.int .i64 (Lib.idxOfS kindWords m)) ∧ w' = W := fun W b o c h => index_any b o c kindWords m W h
    have HK := Lib.hid hkk
    clear hkk
    generalize hx : Lib.idxOfS kindWords m = x at *
    by_cases h1 : x = -1
    · rw [show parseS s = (zeroR, 15) by rw [hR]; simp [parseL, hc, hx, h1]]
      have hw : IntKind.i64.wrap 0 = 0 := by decide
      clear hR hc
      go_enter Tryz.func16, Tryz.ntmps16
      go_wp2_with fail
      refine (HSP.out _ HM.out).mono ?_
      rintro e w1 ⟨rfl, rfl⟩
      go_wp2_with fail
      refine (contains_any _ _ 3 [a, m, b] ⟨#[]⟩ _ (Rd.new encS _ [a, m, b] _ _ (by simp) _ rfl (by simp))).mono ?_
      rintro e w1 ⟨rfl, rfl⟩
      rw [HC.out]
      skip
      go_wp2_with fail
      refine (kinds_any _).mono ?_
      rintro e w1 ⟨rfl, hb⟩
      unfold kindV
      go_wp2_with fail
      have hN1 : Rd encS (w1.alloc (.cells #[.string ⟨#[111, 118, 101, 114, 108, 105, 101, 115]⟩, .string ⟨#[99, 117, 116, 115]⟩, .string ⟨#[105, 110, 116, 114, 117, 100, 101, 115]⟩, .string ⟨#[97, 103, 97, 105, 110, 115, 116]⟩] 69)) (some ⟨w.heap.size + 1, 0, none⟩) [a, m, b] :=
        ((Rd.new encS _ [a, m, b] _ _ (by simp) _ rfl (by simp)).below hb).alloc _
      have hN2 : Rd encS (w1.alloc (.cells #[.string ⟨#[111, 118, 101, 114, 108, 105, 101, 115]⟩, .string ⟨#[99, 117, 116, 115]⟩, .string ⟨#[105, 110, 116, 114, 117, 100, 101, 115]⟩, .string ⟨#[97, 103, 97, 105, 110, 115, 116]⟩] 69)) (some ⟨w1.heap.size, 0, none⟩) kindWords := Rd.new encS w1 kindWords 69 _ rfl _ rfl (by simp [kindWords])
      have HB := Lib.hid ((below_step (below_two w (.cells #[.int .i64 0, .string ⟨#[]⟩, .string ⟨#[]⟩] 25) (.cells (flat encS [a, m, b]).toArray 9)) (by simp; omega) hb).alloc (by have := hb.size; simp at this; omega) (.cells #[.string ⟨#[111, 118, 101, 114, 108, 105, 101, 115]⟩, .string ⟨#[99, 117, 116, 115]⟩, .string ⟨#[105, 110, 116, 114, 117, 100, 101, 115]⟩, .string ⟨#[97, 103, 97, 105, 110, 115, 116]⟩] 69))
      have hrow : (w1.alloc (.cells #[.string ⟨#[111, 118, 101, 114, 108, 105, 101, 115]⟩, .string ⟨#[99, 117, 116, 115]⟩, .string ⟨#[105, 110, 116, 114, 117, 100, 101, 115]⟩, .string ⟨#[97, 103, 97, 105, 110, 115, 116]⟩] 69)).heap[w.heap.size]? = some (.cells #[.int .i64 0, .string ⟨#[]⟩, .string ⟨#[]⟩] 25 (0, 0)) := by
        rw [Below.heap_alloc _ _ _ (by have := hb.size; simp at this; omega), hb.block _ (by simp; omega), Below.heap_alloc _ _ _ (by simp)]
        exact heap_alloc_new w _
      have hlt : w.heap.size < (w1.alloc (.cells #[.string ⟨#[111, 118, 101, 114, 108, 105, 101, 115]⟩, .string ⟨#[99, 117, 116, 115]⟩, .string ⟨#[105, 110, 116, 114, 117, 100, 101, 115]⟩, .string ⟨#[97, 103, 97, 105, 110, 115, 116]⟩] 69)).heap.size := by have := hb.size; simp at this; simp; omega
      clear hb
      generalize w1.alloc (.cells #[.string ⟨#[111, 118, 101, 114, 108, 105, 101, 115]⟩, .string ⟨#[99, 117, 116, 115]⟩, .string ⟨#[105, 110, 116, 114, 117, 100, 101, 115]⟩, .string ⟨#[97, 103, 97, 105, 110, 115, 116]⟩] 69) = W at *
      generalize w1.heap.size = N2 at *
      obtain ⟨_, _, e0, p0⟩ := hN1.str (i := 0) rfl
      cases e0
      obtain ⟨_, _, e1, p1⟩ := hN1.str (i := 1) rfl
      cases e1
      obtain ⟨_, _, e2, p2⟩ := hN1.str (i := 2) rfl
      cases e2
      simp only [Nat.zero_add, Nat.add_zero] at p0 p1 p2
      have HN2 := Lib.hid hN2
      have HROW := Lib.hid hrow
      have HLT := Lib.hid hlt
      have HB3 := (Below.refl W.heap.size W).alloc (Nat.le_refl _) (.cells #[.int .i64 0, .string ⟨#[]⟩, .string ⟨#[]⟩] 25)
      have p3 := below_cell HB3 p0
      have p4 := below_cell HB3 p1
      have p5 := below_cell HB3 p2
      clear hN1 hN2 HB3 hrow hlt
      go_region_held3 (fun w' => w'.cell? ⟨w.heap.size + 1, 0, none⟩ = some (.string a) ∧ w'.cell? ⟨w.heap.size + 1, 1, none⟩ = some (.string m) ∧ w'.cell? ⟨w.heap.size + 1, 2, none⟩ = some (.string b))
        (first
          | go_keep
          | (refine ⟨?_, ?_, ?_⟩ <;> assumption))
        (first
          | (go_at_call 36; refine (HK.out _ _ _ _ (by first | exact HN2.out.drew 1 | exact (HN2.out.drew 1).alloc _ | exact (HN2.out.alloc _).drew 1)).mono ?_; rintro e w' ⟨rfl, rfl⟩)
          | (go_simp; go_at_call 36; refine (HK.out _ _ _ _ (by first | exact HN2.out.drew 1 | exact (HN2.out.drew 1).alloc _ | exact (HN2.out.alloc _).drew 1)).mono ?_; rintro e w' ⟨rfl, rfl⟩))
      all_goals
        (try simp only [hw])
        have v0 : ((W.alloc (.cells #[.int .i64 (0), .string a, .string b] 25)).drew).heap[w.heap.size]? = some (.cells #[.int .i64 0, .string ⟨#[]⟩, .string ⟨#[]⟩] 25 (0, 0)) := (Below.heap_alloc W _ _ HLT.out).trans HROW.out
        have v1 : ((W.alloc (.cells #[.int .i64 (0), .string a, .string b] 25)).drew).heap[W.heap.size]? = some (.cells #[.int .i64 (0), .string a, .string b] 25 (0, 0)) := heap_alloc_new W _
        have HV : Hid (Below w.heap.size w ((W.alloc (.cells #[.int .i64 (0), .string a, .string b] 25)).drew)) := Lib.hid (below_drewN (HB.out.alloc HB.out.size _) 1)
        have hWX : w.heap.size < W.heap.size := HLT.out
        have hXV : W.heap.size < ((W.alloc (.cells #[.int .i64 (0), .string a, .string b] 25)).drew).heap.size := by simp
        clear p0 p1 p2 p3 p4 p5
        generalize (W.alloc (.cells #[.int .i64 (0), .string a, .string b] 25)).drew = V at v0 v1 HV hXV ⊢
        generalize W.heap.size = X at v0 v1 hWX hXV ⊢
        obtain ⟨⟨r0, r1, r2⟩, rf⟩ := rel_row (x := (0, ⟨#[]⟩, ⟨#[]⟩)) v0
        obtain ⟨⟨s0, s1, s2⟩, _⟩ := rel_row (x := (0, a, b)) v1
        have rf0 := rf 0
        have rf1 := rf 1
        have rf2 := rf 2
        simp only at r0 r1 r2 s0 s1 s2
        clear rf v0 v1
        go_wp2_with fail
        exact bodyPost_ret (v := .tuple #[.agg #[.int .i64 0, .string ⟨#[]⟩, .string ⟨#[]⟩], .int .i64 15]) (by simp [results, Tryz.results16, go_sem, r0, r1, r2]) rfl ⟨rfl, ((HV.out.setCell (Nat.le_refl _) _).setCell (Nat.le_refl _) _).setCell (Nat.le_refl _) _⟩
    · have hP : parseS s = if checkS (1 + x, a, b) = 0 then ((1 + x, a, b), 0) else (zeroR, checkS (1 + x, a, b)) := by rw [hR]; simp [parseL, hc, hx, h1]
      have hw : IntKind.i64.wrap (1 + x) = 1 + x := by rw [IntKind.wrap_i64]; omega
      have h0 : (1 + x == 0) = false := by simp; omega
      by_cases hch : checkS (1 + x, a, b) = 0
      · rw [hP, if_pos hch]
        have HCH := Lib.hid hch
        clear hP hch hR hc
        go_enter Tryz.func16, Tryz.ntmps16
        go_wp2_with fail
        refine (HSP.out _ HM.out).mono ?_
        rintro e w1 ⟨rfl, rfl⟩
        go_wp2_with fail
        refine (contains_any _ _ 3 [a, m, b] ⟨#[]⟩ _ (Rd.new encS _ [a, m, b] _ _ (by simp) _ rfl (by simp))).mono ?_
        rintro e w1 ⟨rfl, rfl⟩
        rw [HC.out]
        skip
        go_wp2_with fail
        refine (kinds_any _).mono ?_
        rintro e w1 ⟨rfl, hb⟩
        unfold kindV
        go_wp2_with fail
        have hN1 : Rd encS (w1.alloc (.cells #[.string ⟨#[111, 118, 101, 114, 108, 105, 101, 115]⟩, .string ⟨#[99, 117, 116, 115]⟩, .string ⟨#[105, 110, 116, 114, 117, 100, 101, 115]⟩, .string ⟨#[97, 103, 97, 105, 110, 115, 116]⟩] 69)) (some ⟨w.heap.size + 1, 0, none⟩) [a, m, b] :=
          ((Rd.new encS _ [a, m, b] _ _ (by simp) _ rfl (by simp)).below hb).alloc _
        have hN2 : Rd encS (w1.alloc (.cells #[.string ⟨#[111, 118, 101, 114, 108, 105, 101, 115]⟩, .string ⟨#[99, 117, 116, 115]⟩, .string ⟨#[105, 110, 116, 114, 117, 100, 101, 115]⟩, .string ⟨#[97, 103, 97, 105, 110, 115, 116]⟩] 69)) (some ⟨w1.heap.size, 0, none⟩) kindWords := Rd.new encS w1 kindWords 69 _ rfl _ rfl (by simp [kindWords])
        have HB := Lib.hid ((below_step (below_two w (.cells #[.int .i64 0, .string ⟨#[]⟩, .string ⟨#[]⟩] 25) (.cells (flat encS [a, m, b]).toArray 9)) (by simp; omega) hb).alloc (by have := hb.size; simp at this; omega) (.cells #[.string ⟨#[111, 118, 101, 114, 108, 105, 101, 115]⟩, .string ⟨#[99, 117, 116, 115]⟩, .string ⟨#[105, 110, 116, 114, 117, 100, 101, 115]⟩, .string ⟨#[97, 103, 97, 105, 110, 115, 116]⟩] 69))
        have hrow : (w1.alloc (.cells #[.string ⟨#[111, 118, 101, 114, 108, 105, 101, 115]⟩, .string ⟨#[99, 117, 116, 115]⟩, .string ⟨#[105, 110, 116, 114, 117, 100, 101, 115]⟩, .string ⟨#[97, 103, 97, 105, 110, 115, 116]⟩] 69)).heap[w.heap.size]? = some (.cells #[.int .i64 0, .string ⟨#[]⟩, .string ⟨#[]⟩] 25 (0, 0)) := by
          rw [Below.heap_alloc _ _ _ (by have := hb.size; simp at this; omega), hb.block _ (by simp; omega), Below.heap_alloc _ _ _ (by simp)]
          exact heap_alloc_new w _
        have hlt : w.heap.size < (w1.alloc (.cells #[.string ⟨#[111, 118, 101, 114, 108, 105, 101, 115]⟩, .string ⟨#[99, 117, 116, 115]⟩, .string ⟨#[105, 110, 116, 114, 117, 100, 101, 115]⟩, .string ⟨#[97, 103, 97, 105, 110, 115, 116]⟩] 69)).heap.size := by have := hb.size; simp at this; simp; omega
        clear hb
        generalize w1.alloc (.cells #[.string ⟨#[111, 118, 101, 114, 108, 105, 101, 115]⟩, .string ⟨#[99, 117, 116, 115]⟩, .string ⟨#[105, 110, 116, 114, 117, 100, 101, 115]⟩, .string ⟨#[97, 103, 97, 105, 110, 115, 116]⟩] 69) = W at *
        generalize w1.heap.size = N2 at *
        obtain ⟨_, _, e0, p0⟩ := hN1.str (i := 0) rfl
        cases e0
        obtain ⟨_, _, e1, p1⟩ := hN1.str (i := 1) rfl
        cases e1
        obtain ⟨_, _, e2, p2⟩ := hN1.str (i := 2) rfl
        cases e2
        simp only [Nat.zero_add, Nat.add_zero] at p0 p1 p2
        have HN2 := Lib.hid hN2
        have HROW := Lib.hid hrow
        have HLT := Lib.hid hlt
        have HB3 := (Below.refl W.heap.size W).alloc (Nat.le_refl _) (.cells #[.int .i64 0, .string ⟨#[]⟩, .string ⟨#[]⟩] 25)
        have p3 := below_cell HB3 p0
        have p4 := below_cell HB3 p1
        have p5 := below_cell HB3 p2
        clear hN1 hN2 HB3 hrow hlt
        go_region_held3 (fun w' => w'.cell? ⟨w.heap.size + 1, 0, none⟩ = some (.string a) ∧ w'.cell? ⟨w.heap.size + 1, 1, none⟩ = some (.string m) ∧ w'.cell? ⟨w.heap.size + 1, 2, none⟩ = some (.string b))
          (first
            | go_keep
            | (refine ⟨?_, ?_, ?_⟩ <;> assumption))
          (first
            | (go_at_call 36; refine (HK.out _ _ _ _ (by first | exact HN2.out.drew 1 | exact (HN2.out.drew 1).alloc _ | exact (HN2.out.alloc _).drew 1)).mono ?_; rintro e w' ⟨rfl, rfl⟩)
            | (go_simp; go_at_call 36; refine (HK.out _ _ _ _ (by first | exact HN2.out.drew 1 | exact (HN2.out.drew 1).alloc _ | exact (HN2.out.alloc _).drew 1)).mono ?_; rintro e w' ⟨rfl, rfl⟩))
        all_goals
          (try simp only [hw])
          have v0 : ((W.alloc (.cells #[.int .i64 (1 + x), .string a, .string b] 25)).drew).heap[w.heap.size]? = some (.cells #[.int .i64 0, .string ⟨#[]⟩, .string ⟨#[]⟩] 25 (0, 0)) := (Below.heap_alloc W _ _ HLT.out).trans HROW.out
          have v1 : ((W.alloc (.cells #[.int .i64 (1 + x), .string a, .string b] 25)).drew).heap[W.heap.size]? = some (.cells #[.int .i64 (1 + x), .string a, .string b] 25 (0, 0)) := heap_alloc_new W _
          have HV : Hid (Below w.heap.size w ((W.alloc (.cells #[.int .i64 (1 + x), .string a, .string b] 25)).drew)) := Lib.hid (below_drewN (HB.out.alloc HB.out.size _) 1)
          have hWX : w.heap.size < W.heap.size := HLT.out
          have hXV : W.heap.size < ((W.alloc (.cells #[.int .i64 (1 + x), .string a, .string b] 25)).drew).heap.size := by simp
          clear p0 p1 p2 p3 p4 p5
          generalize (W.alloc (.cells #[.int .i64 (1 + x), .string a, .string b] 25)).drew = V at v0 v1 HV hXV ⊢
          generalize W.heap.size = X at v0 v1 hWX hXV ⊢
          obtain ⟨⟨r0, r1, r2⟩, rf⟩ := rel_row (x := (0, ⟨#[]⟩, ⟨#[]⟩)) v0
          obtain ⟨⟨s0, s1, s2⟩, _⟩ := rel_row (x := (1 + x, a, b)) v1
          have rf0 := rf 0
          have rf1 := rf 1
          have rf2 := rf 2
          simp only at r0 r1 r2 s0 s1 s2
          clear rf
          have V0 := Lib.hid v0
          have V1 := Lib.hid v1
          clear v0 v1
          go_wp2_with fail
          refine (check_lib (1 + x, a, b) _ hsa hsb).mono ?_
          rintro e w3 ⟨rfl, hb3⟩
          have t0 := rel_row (x := (0, ⟨#[]⟩, ⟨#[]⟩)) ((hb3.block _ (by omega)).trans V0.out)
          have t1 := rel_row (x := (1 + x, a, b)) ((hb3.block _ (by omega)).trans V1.out)
          have HB3 := Lib.hid (HV.out.trans (hb3.mono (by have := HV.out.size; omega)))
          clear hb3 r0 r1 r2 s0 s1 s2 rf0 rf1 rf2 HV
          obtain ⟨⟨r0, r1, r2⟩, rf⟩ := t0
          obtain ⟨⟨s0, s1, s2⟩, _⟩ := t1
          have rf0 := rf 0
          have rf1 := rf 1
          have rf2 := rf 2
          simp only at r0 r1 r2 s0 s1 s2
          clear rf
          rw [HCH.out]
          skip
          go_wp2_with fail
          exact bodyPost_ret (v := .tuple #[.agg #[.int .i64 (1 + x), .string a, .string b], .int .i64 0]) (by simp [results, Tryz.results16, go_sem, r0, r1, r2]) rfl ⟨rfl, ((HB3.out.setCell (Nat.le_refl _) _).setCell (Nat.le_refl _) _).setCell (Nat.le_refl _) _⟩
      · rw [hP, if_neg hch]
        have hch2 : (checkS (1 + x, a, b) != 0) = true := by simp [hch]
        clear hP hch hR hc
        go_enter Tryz.func16, Tryz.ntmps16
        go_wp2_with fail
        refine (HSP.out _ HM.out).mono ?_
        rintro e w1 ⟨rfl, rfl⟩
        go_wp2_with fail
        refine (contains_any _ _ 3 [a, m, b] ⟨#[]⟩ _ (Rd.new encS _ [a, m, b] _ _ (by simp) _ rfl (by simp))).mono ?_
        rintro e w1 ⟨rfl, rfl⟩
        rw [HC.out]
        skip
        go_wp2_with fail
        refine (kinds_any _).mono ?_
        rintro e w1 ⟨rfl, hb⟩
        unfold kindV
        go_wp2_with fail
        have hN1 : Rd encS (w1.alloc (.cells #[.string ⟨#[111, 118, 101, 114, 108, 105, 101, 115]⟩, .string ⟨#[99, 117, 116, 115]⟩, .string ⟨#[105, 110, 116, 114, 117, 100, 101, 115]⟩, .string ⟨#[97, 103, 97, 105, 110, 115, 116]⟩] 69)) (some ⟨w.heap.size + 1, 0, none⟩) [a, m, b] :=
          ((Rd.new encS _ [a, m, b] _ _ (by simp) _ rfl (by simp)).below hb).alloc _
        have hN2 : Rd encS (w1.alloc (.cells #[.string ⟨#[111, 118, 101, 114, 108, 105, 101, 115]⟩, .string ⟨#[99, 117, 116, 115]⟩, .string ⟨#[105, 110, 116, 114, 117, 100, 101, 115]⟩, .string ⟨#[97, 103, 97, 105, 110, 115, 116]⟩] 69)) (some ⟨w1.heap.size, 0, none⟩) kindWords := Rd.new encS w1 kindWords 69 _ rfl _ rfl (by simp [kindWords])
        have HB := Lib.hid ((below_step (below_two w (.cells #[.int .i64 0, .string ⟨#[]⟩, .string ⟨#[]⟩] 25) (.cells (flat encS [a, m, b]).toArray 9)) (by simp; omega) hb).alloc (by have := hb.size; simp at this; omega) (.cells #[.string ⟨#[111, 118, 101, 114, 108, 105, 101, 115]⟩, .string ⟨#[99, 117, 116, 115]⟩, .string ⟨#[105, 110, 116, 114, 117, 100, 101, 115]⟩, .string ⟨#[97, 103, 97, 105, 110, 115, 116]⟩] 69))
        have hrow : (w1.alloc (.cells #[.string ⟨#[111, 118, 101, 114, 108, 105, 101, 115]⟩, .string ⟨#[99, 117, 116, 115]⟩, .string ⟨#[105, 110, 116, 114, 117, 100, 101, 115]⟩, .string ⟨#[97, 103, 97, 105, 110, 115, 116]⟩] 69)).heap[w.heap.size]? = some (.cells #[.int .i64 0, .string ⟨#[]⟩, .string ⟨#[]⟩] 25 (0, 0)) := by
          rw [Below.heap_alloc _ _ _ (by have := hb.size; simp at this; omega), hb.block _ (by simp; omega), Below.heap_alloc _ _ _ (by simp)]
          exact heap_alloc_new w _
        have hlt : w.heap.size < (w1.alloc (.cells #[.string ⟨#[111, 118, 101, 114, 108, 105, 101, 115]⟩, .string ⟨#[99, 117, 116, 115]⟩, .string ⟨#[105, 110, 116, 114, 117, 100, 101, 115]⟩, .string ⟨#[97, 103, 97, 105, 110, 115, 116]⟩] 69)).heap.size := by have := hb.size; simp at this; simp; omega
        clear hb
        generalize w1.alloc (.cells #[.string ⟨#[111, 118, 101, 114, 108, 105, 101, 115]⟩, .string ⟨#[99, 117, 116, 115]⟩, .string ⟨#[105, 110, 116, 114, 117, 100, 101, 115]⟩, .string ⟨#[97, 103, 97, 105, 110, 115, 116]⟩] 69) = W at *
        generalize w1.heap.size = N2 at *
        obtain ⟨_, _, e0, p0⟩ := hN1.str (i := 0) rfl
        cases e0
        obtain ⟨_, _, e1, p1⟩ := hN1.str (i := 1) rfl
        cases e1
        obtain ⟨_, _, e2, p2⟩ := hN1.str (i := 2) rfl
        cases e2
        simp only [Nat.zero_add, Nat.add_zero] at p0 p1 p2
        have HN2 := Lib.hid hN2
        have HROW := Lib.hid hrow
        have HLT := Lib.hid hlt
        have HB3 := (Below.refl W.heap.size W).alloc (Nat.le_refl _) (.cells #[.int .i64 0, .string ⟨#[]⟩, .string ⟨#[]⟩] 25)
        have p3 := below_cell HB3 p0
        have p4 := below_cell HB3 p1
        have p5 := below_cell HB3 p2
        clear hN1 hN2 HB3 hrow hlt
        go_region_held3 (fun w' => w'.cell? ⟨w.heap.size + 1, 0, none⟩ = some (.string a) ∧ w'.cell? ⟨w.heap.size + 1, 1, none⟩ = some (.string m) ∧ w'.cell? ⟨w.heap.size + 1, 2, none⟩ = some (.string b))
          (first
            | go_keep
            | (refine ⟨?_, ?_, ?_⟩ <;> assumption))
          (first
            | (go_at_call 36; refine (HK.out _ _ _ _ (by first | exact HN2.out.drew 1 | exact (HN2.out.drew 1).alloc _ | exact (HN2.out.alloc _).drew 1)).mono ?_; rintro e w' ⟨rfl, rfl⟩)
            | (go_simp; go_at_call 36; refine (HK.out _ _ _ _ (by first | exact HN2.out.drew 1 | exact (HN2.out.drew 1).alloc _ | exact (HN2.out.alloc _).drew 1)).mono ?_; rintro e w' ⟨rfl, rfl⟩))
        all_goals
          (try simp only [hw])
          have v0 : ((W.alloc (.cells #[.int .i64 (1 + x), .string a, .string b] 25)).drew).heap[w.heap.size]? = some (.cells #[.int .i64 0, .string ⟨#[]⟩, .string ⟨#[]⟩] 25 (0, 0)) := (Below.heap_alloc W _ _ HLT.out).trans HROW.out
          have v1 : ((W.alloc (.cells #[.int .i64 (1 + x), .string a, .string b] 25)).drew).heap[W.heap.size]? = some (.cells #[.int .i64 (1 + x), .string a, .string b] 25 (0, 0)) := heap_alloc_new W _
          have HV : Hid (Below w.heap.size w ((W.alloc (.cells #[.int .i64 (1 + x), .string a, .string b] 25)).drew)) := Lib.hid (below_drewN (HB.out.alloc HB.out.size _) 1)
          have hWX : w.heap.size < W.heap.size := HLT.out
          have hXV : W.heap.size < ((W.alloc (.cells #[.int .i64 (1 + x), .string a, .string b] 25)).drew).heap.size := by simp
          clear p0 p1 p2 p3 p4 p5
          generalize (W.alloc (.cells #[.int .i64 (1 + x), .string a, .string b] 25)).drew = V at v0 v1 HV hXV ⊢
          generalize W.heap.size = X at v0 v1 hWX hXV ⊢
          obtain ⟨⟨r0, r1, r2⟩, rf⟩ := rel_row (x := (0, ⟨#[]⟩, ⟨#[]⟩)) v0
          obtain ⟨⟨s0, s1, s2⟩, _⟩ := rel_row (x := (1 + x, a, b)) v1
          have rf0 := rf 0
          have rf1 := rf 1
          have rf2 := rf 2
          simp only at r0 r1 r2 s0 s1 s2
          clear rf
          have V0 := Lib.hid v0
          have V1 := Lib.hid v1
          clear v0 v1
          go_wp2_with fail
          refine (check_lib (1 + x, a, b) _ hsa hsb).mono ?_
          rintro e w3 ⟨rfl, hb3⟩
          have t0 := rel_row (x := (0, ⟨#[]⟩, ⟨#[]⟩)) ((hb3.block _ (by omega)).trans V0.out)
          have t1 := rel_row (x := (1 + x, a, b)) ((hb3.block _ (by omega)).trans V1.out)
          have HB3 := Lib.hid (HV.out.trans (hb3.mono (by have := HV.out.size; omega)))
          clear hb3 r0 r1 r2 s0 s1 s2 rf0 rf1 rf2 HV
          obtain ⟨⟨r0, r1, r2⟩, rf⟩ := t0
          obtain ⟨⟨s0, s1, s2⟩, _⟩ := t1
          have rf0 := rf 0
          have rf1 := rf 1
          have rf2 := rf 2
          simp only at r0 r1 r2 s0 s1 s2
          clear rf
          go_wp2_with fail
          exact bodyPost_ret (v := .tuple #[.agg #[.int .i64 0, .string ⟨#[]⟩, .string ⟨#[]⟩], .int .i64 (checkS (1 + x, a, b))]) (by simp [results, Tryz.results16, go_sem, r0, r1, r2]) rfl ⟨rfl, ((HB3.out.setCell (Nat.le_refl _) _).setCell (Nat.le_refl _) _).setCell (Nat.le_refl _) _⟩
end Go.Proofs.YtpnobpnknlpjnaaGreatDoor
