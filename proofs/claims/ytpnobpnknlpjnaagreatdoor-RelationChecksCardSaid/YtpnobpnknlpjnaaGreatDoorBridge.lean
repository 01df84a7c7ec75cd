/- From a slice of the call's own to the words of the library's sort, and back. -/
import Derived.Test.YtpnobpnknlpjnaaGreatDoorCompare
import Derived.Test.YtpnobpnknlpjnaaGreatDoorMake
import Derived.Test.YtpnobpnknlpjnaaGreatDoorLays
set_option linter.unusedVariables false
set_option linter.unusedSimpArgs false
namespace Go.Proofs.YtpnobpnknlpjnaaGreatDoor
open Go Go.RowKit Go.Sort Go.Lib

theorem flatK_list {α : Type} [Inhabited α] {enc : α → List Value} {k : Nat} (hk : ∀ x, (enc x).length = k) (d : Array α) : (flatK enc k d).toList = flat enc d.toList := by
  apply List.ext_getElem?
  intro t
  rcases Nat.eq_zero_or_pos k with h0 | h0
  · have e1 : (flatK enc k d).toList = [] := List.eq_nil_of_length_eq_zero (by simp [h0])
    have e2 : flat enc d.toList = [] := List.eq_nil_of_length_eq_zero (by rw [flat_length hk, h0]; simp)
    rw [e1, e2]
  · by_cases ht : t < d.size * k
    · have hi : t / k < d.size := (Nat.div_lt_iff_lt_mul h0).2 ht
      have hj : t % k < k := Nat.mod_lt _ h0
      have e := flat_get hk d.toList (t / k) d[t / k] (by simp [hi]) (t % k) hj
      rw [Nat.div_add_mod' t k] at e
      rw [e]
      have hs : t < (flatK enc k d).size := by simpa using ht
      have e3 := get_flatK enc k d t ht
      rw [getElem!_pos (flatK enc k d) t hs, getElem!_pos d (t / k) hi] at e3
      rw [Array.getElem?_toList, Array.getElem?_eq_getElem hs, e3]
      have hl : t % k < (enc d[t / k]).length := by rw [hk]; exact hj
      rw [getElem!_pos (enc d[t / k]) (t % k) hl, List.getElem?_eq_getElem hl]
    · rw [List.getElem?_eq_none (by simp; omega), List.getElem?_eq_none (by rw [flat_length hk]; simp; omega)]

theorem own_holds {α : Type} [Inhabited α] {w : World} {base e size g n cap : Nat} {xs : List Value} (enc : α → Value) (d : Array α) (hd : d.toList.map enc = xs) (h : w.ownsRow base e size (.slice (some ⟨g, 0, none⟩) n cap) n xs) : Holds enc w g 0 d := by
  subst hd
  intro j hj
  refine ⟨?_, by rw [Nat.zero_add]; exact h.frozenAt j⟩
  rw [Nat.zero_add]
  have hl := h.1
  simp only [List.length_map, Array.length_toList] at hl
  rw [h.cellAt j (by omega), getElem!_pos d j hj]
  simp [hj]

theorem own_put {α : Type} [Inhabited α] {w : World} {base e size g n cap : Nat} {xs : List Value} (enc : α → Value) (h : w.ownsRow base e size (.slice (some ⟨g, 0, none⟩) n cap) n xs) (d : Array α) (hd : d.size = n * size) (m : Nat) (os : Array Obj) :
    (grow (putRow enc (Sort.ahead w m) g 0 d) os).ownsRow base e size (.slice (some ⟨g, 0, none⟩) n cap) n (d.toList.map enc) ∧ w.grownBy (grow (putRow enc (Sort.ahead w m) g 0 d) os) (some g) := by
  rcases h.2 with ⟨h', _⟩ | ⟨g', cap', cur, h', hb, hg, hnc, hcm, hcs, htake⟩
  · simp at h'
  · simp only [Value.slice.injEq, Option.some.injEq, Addr.mk.injEq, and_true, true_and] at h'
    obtain ⟨rfl, rfl⟩ := h'
    have hlt : g < w.heap.size := (Array.getElem?_eq_some_iff.1 hg).1
    have hblk : ∀ k, k < w.heap.size → (grow (putRow enc (Sort.ahead w m) g 0 d) os).heap[k]? = (putRow enc (Sort.ahead w m) g 0 d).heap[k]? := fun k hk => heap_grow_old _ _ (by rw [size_putRow]; exact hk)
    have hput : (putRow enc (Sort.ahead w m) g 0 d).heap = w.heap.modify g (onCells (putCells enc 0 d)) := rfl
    have hnew : (grow (putRow enc (Sort.ahead w m) g 0 d) os).heap[g]? = some (.cells (putCells enc 0 d cur) e (0, 0)) := by
      rw [hblk g hlt, hput, Array.getElem?_modify, if_pos rfl, hg]
      rfl
    refine ⟨⟨by simp [hd], .inr ⟨g, cap, putCells enc 0 d cur, rfl, hb, hnew, hnc, hcm, by simpa [putCells] using hcs, ?_⟩⟩, rfl, rfl, rfl, by simp [grow, putRow, mapBlock, Sort.ahead], fun k hk hne => ?_⟩
    · apply List.ext_getElem?
      intro t
      rw [List.getElem?_take]
      by_cases ht : t < n * size
      · have hc : t < cur.size := by rw [hcs]; exact Nat.lt_of_lt_of_le ht (Nat.mul_le_mul_right _ hnc)
        rw [if_pos ht]
        have htd : t < d.size := by omega
        simp [putCells, hc, htd]
      · rw [if_neg ht, List.getElem?_eq_none (by simp; omega)]
    · rw [hblk k hk, hput, Array.getElem?_modify, if_neg (fun e => hne (by rw [e]))]

/-- slices.SortFunc over relations and over arcs: a permutation, in order; nothing else that was there has turned. -/
theorem swo_cmpR : SWO (ltOf cmpR) := by
  have h : ltOf cmpR = rltS := by
    funext x y
    unfold ltOf
    rw [Bool.eq_iff_iff]
    simp [cmpR_neg]
  rw [h]; exact sto_rlt.swo
theorem swo_cmpA : SWO (ltOf cmpA) := by
  have h : ltOf cmpA = altS := by
    funext x y
    unfold ltOf
    rw [Bool.eq_iff_iff]
    simp [cmpA_neg]
  rw [h]; exact sto_alt.swo
theorem ltOf_cmpR : ltOf cmpR = rltS := by
  funext x y
  unfold ltOf
  rw [Bool.eq_iff_iff]
  simp [cmpR_neg]
theorem ltOf_cmpA : ltOf cmpA = altS := by
  funext x y
  unfold ltOf
  rw [Bool.eq_iff_iff]
  simp [cmpA_neg]

theorem sort_R (v : Value) (xs : List Rel) (base : Nat) (w : World) (hO : Own encR 3 25 base w v xs) (hl : xs.length < 4611686018427387904) :
    Calls Tryz.prog 20 #[v, .func (.func 21) #[] #[]] w fun e w' => e = .returned (.tuple #[]) ∧
      ∃ ys : List Rel, ys.Perm xs ∧ ys.Pairwise (fun a b => rltS b a = false) ∧ Own encR 3 25 base w' v ys ∧ w.grownBy w' v.ownBlock := by
  rcases hO.2 with ⟨rfl, h0⟩ | ⟨g, cap, cur, rfl, hb, hg, hr⟩
  · have hx : xs = [] := List.eq_nil_of_length_eq_zero h0
    subst hx
    have hcon := AnyF.slices_SortFunc_none { Tryz.lSortR with } (none : Option Addr) 0 (.func (.func 21) #[] #[]) w
    change Calls Tryz.prog 20 _ _ _ at hcon
    refine hcon.mono ?_
    rintro e w' ⟨he, hw⟩
    subst hw
    exact ⟨he, [], .refl _, .nil, hO, World.grownBy.refl _ _⟩
  · have eg : ∀ args w, (callFunc 21 args).run Tryz.prog w = .ok (.enter 21 args) w := enters_of Tryz.func21 (by kernel_rfl) rfl
    have hfl : (flatK encR 3 xs.toArray).toList.map id = flat encR xs := by rw [List.map_id, flatK_list (enc := encR) (k := 3) (fun _ => rfl)]
    have hH : HoldsK encR 3 w g 0 xs.toArray := own_holds id (flatK encR 3 xs.toArray) hfl hO
    have hblk : g < w.heap.size := (Array.getElem?_eq_some_iff.1 hg).1
    have hcmp : CmpLays Tryz.prog 21 #[] encR 3 cmpR g 0 xs.toArray.size w := fun m os dk _ x y => compare_any x y _
    have hcon := AnyQ.slices_SortFunc Tryz.lSortR 3 Tryz.isAgg25 Tryz.sizeOf25 encR (fun _ => rfl) (fun x u hu => by simp [encR] at hu; rcases hu with rfl | rfl | rfl <;> rfl) cmpR swo_cmpR 21 #[] g 0 cap xs.toArray w eg hcmp hH hblk (by simpa using hl)
    change Calls Tryz.prog 20 _ _ _ at hcon
    rw [show xs.toArray.size = xs.length by simp] at hcon
    refine hcon.mono ?_
    rintro e w' ⟨he, d', n, os, hp, hs, rfl⟩
    have hsz : d'.size = xs.length := by have := hp.1; simpa using this
    have hput := own_put id hO (flatK encR 3 d') (by simp [hsz]) n os
    rw [List.map_id, flatK_list (enc := encR) (k := 3) (fun _ => rfl)] at hput
    have hp' := K.perm_list (d := xs.toArray) (by simpa using hp)
    rw [ltOf_cmpR] at hs
    refine ⟨he, d'.toList, by simpa using hp', K.sorted_list (by rw [hsz]; simpa using hs), ?_, hput.2⟩
    unfold Own
    rw [show d'.toList.length = xs.length by simp [hsz]]
    exact hput.1
theorem sort_A (v : Value) (xs : List Arc) (base : Nat) (w : World) (hO : Own encA 2 49 base w v xs) (hl : xs.length < 4611686018427387904) :
    Calls Tryz.prog 25 #[v, .func (.func 26) #[] #[]] w fun e w' => e = .returned (.tuple #[]) ∧
      ∃ ys : List Arc, ys.Perm xs ∧ ys.Pairwise (fun a b => altS b a = false) ∧ Own encA 2 49 base w' v ys ∧ w.grownBy w' v.ownBlock := by
  rcases hO.2 with ⟨rfl, h0⟩ | ⟨g, cap, cur, rfl, hb, hg, hr⟩
  · have hx : xs = [] := List.eq_nil_of_length_eq_zero h0
    subst hx
    have hcon := AnyF.slices_SortFunc_none { Tryz.lSortA with } (none : Option Addr) 0 (.func (.func 26) #[] #[]) w
    change Calls Tryz.prog 25 _ _ _ at hcon
    refine hcon.mono ?_
    rintro e w' ⟨he, hw⟩
    subst hw
    exact ⟨he, [], .refl _, .nil, hO, World.grownBy.refl _ _⟩
  · have eg : ∀ args w, (callFunc 26 args).run Tryz.prog w = .ok (.enter 26 args) w := enters_of Tryz.func26 (by kernel_rfl) rfl
    have hfl : (flatK encA 2 xs.toArray).toList.map id = flat encA xs := by rw [List.map_id, flatK_list (enc := encA) (k := 2) (fun _ => rfl)]
    have hH : HoldsK encA 2 w g 0 xs.toArray := own_holds id (flatK encA 2 xs.toArray) hfl hO
    have hblk : g < w.heap.size := (Array.getElem?_eq_some_iff.1 hg).1
    have hcmp : CmpLays Tryz.prog 26 #[] encA 2 cmpA g 0 xs.toArray.size w := fun m os dk _ x y => compareA_any x y _
    have hcon := AnyQ.slices_SortFunc Tryz.lSortA 2 Tryz.isAgg49 Tryz.sizeOf49 encA (fun _ => rfl) (fun x u hu => by simp [encA] at hu; rcases hu with rfl | rfl <;> rfl) cmpA swo_cmpA 26 #[] g 0 cap xs.toArray w eg hcmp hH hblk (by simpa using hl)
    change Calls Tryz.prog 25 _ _ _ at hcon
    rw [show xs.toArray.size = xs.length by simp] at hcon
    refine hcon.mono ?_
    rintro e w' ⟨he, d', n, os, hp, hs, rfl⟩
    have hsz : d'.size = xs.length := by have := hp.1; simpa using this
    have hput := own_put id hO (flatK encA 2 d') (by simp [hsz]) n os
    rw [List.map_id, flatK_list (enc := encA) (k := 2) (fun _ => rfl)] at hput
    have hp' := K.perm_list (d := xs.toArray) (by simpa using hp)
    rw [ltOf_cmpA] at hs
    refine ⟨he, d'.toList, by simpa using hp', K.sorted_list (by rw [hsz]; simpa using hs), ?_, hput.2⟩
    unfold Own
    rw [show d'.toList.length = xs.length by simp [hsz]]
    exact hput.1

/-- slices.Sort over names. -/
theorem sort_S (v : Value) (xs : List ByteArray) (base : Nat) (w : World) (hO : Own encS 1 9 base w v xs) (hl : xs.length < 4611686018427387904) :
    Calls Tryz.prog 23 #[v] w fun e w' => e = .returned (.tuple #[]) ∧
      ∃ ys : List ByteArray, ys.Perm xs ∧ ys.Pairwise (fun a b => K.slt b a = false) ∧ Own encS 1 9 base w' v ys ∧ w.grownBy w' v.ownBlock := by
  rcases hO.2 with ⟨rfl, h0⟩ | ⟨g, cap, cur, rfl, hb, hg, hr⟩
  · have hx : xs = [] := List.eq_nil_of_length_eq_zero h0
    subst hx
    have hcon := Any.slices_Sort_string_none Tryz.lSort (none : Option Addr) 0 w
    change Calls Tryz.prog 23 _ _ _ at hcon
    refine hcon.mono ?_
    rintro e w' ⟨he, hw⟩
    subst hw
    exact ⟨he, [], .refl _, .nil, hO, World.grownBy.refl _ _⟩
  · have hblk : g < w.heap.size := (Array.getElem?_eq_some_iff.1 hg).1
    have hen : ∀ ys : List ByteArray, (ys.map (·.data.toList)).map encStr = flat encS ys := fun ys => by
      induction ys with
      | nil => rfl
      | cons y ys ih =>
        simp only [List.map_cons, flat, List.flatMap_cons] at *
        rw [ih]
        rfl
    have hH : Holds encStr w g 0 (xs.map (·.data.toList)).toArray := own_holds encStr _ (by simpa using hen xs) hO
    have hcon := Any.slices_Sort_string Tryz.lSort g 0 cap (xs.map (·.data.toList)) w hH hblk (by simpa using hl)
    change Calls Tryz.prog 23 _ _ _ at hcon
    rw [List.length_map] at hcon
    refine hcon.mono ?_
    rintro e w' ⟨he, n, os, rfl⟩
    obtain ⟨ys, hys⟩ : ∃ ys : List ByteArray, (xs.map (·.data.toList)).mergeSort (fun x y => decide (x ≤ y)) = ys.map (·.data.toList) :=
      ⟨((xs.map (·.data.toList)).mergeSort (fun x y => decide (x ≤ y))).map fun l => ⟨l.toArray⟩, by rw [List.map_map]; exact (List.map_id _).symm⟩
    have hperm : (ys.map (·.data.toList)).Perm (xs.map (·.data.toList)) := by rw [← hys]; exact List.mergeSort_perm _ _
    have hinj : ∀ a b : ByteArray, a.data.toList = b.data.toList → a = b := fun a b h => ByteArray.ext (Array.toList_inj.1 h)
    have hback : ∀ zs : List ByteArray, (zs.map (·.data.toList)).map (fun l => (⟨l.toArray⟩ : ByteArray)) = zs := fun zs => by rw [List.map_map]; exact List.map_id _
    have hperm2 : ys.Perm xs := by have := hperm.map (fun l => (⟨l.toArray⟩ : ByteArray)); rwa [hback, hback] at this
    have hsort : ys.Pairwise (fun a b => K.slt b a = false) := by
      have := List.pairwise_mergeSort (le := fun (x y : List UInt8) => decide (x ≤ y)) (fun a b c h1 h2 => by simp at *; exact List.le_trans h1 h2) (fun a b => by simp; exact List.le_total a b) (xs.map (·.data.toList))
      rw [hys, List.pairwise_map] at this
      refine this.imp fun {a b} h => ?_
      cases h' : K.slt b a with
      | false => rfl
      | true => exact absurd ((K.slt_iff b a).1 h') (List.not_lt.2 (by simpa using h))
    have hput := own_put encStr hO ((ys.map (·.data.toList)).toArray) (by rw [← hys]; simp) n os
    rw [hys]
    refine ⟨he, ys, hperm2, hsort, ?_, hput.2⟩
    have := hput.1
    rw [List.toList_toArray, hen] at this
    unfold Own
    rw [hperm2.length_eq]
    exact this
/-- slices.Clone over relations. -/
theorem clone_R (A : Option Addr) (c : Nat) (xs : List Rel) (w : World) (hx : Rd encR w A xs) (hl : xs.length * 40 ≤ 140737488355328) (ha : A = none ∨ ∃ b o, A = some ⟨b, o, none⟩) :
    Calls Tryz.prog 19 #[.slice A xs.length c] w fun e w' => ∃ v, e = .returned v ∧ Own encR 3 25 w.heap.size w' v xs ∧ Below w.heap.size w w' := by
  rcases ha with rfl | ⟨b, o, rfl⟩
  · have hx0 : xs = [] := by
      rcases Nat.eq_zero_or_pos xs.length with h0 | h0
      · exact List.eq_nil_of_length_eq_zero h0
      · obtain ⟨b, o, e, _⟩ := hx.2 h0; cases e
    subst hx0
    have hcon := AnyE.slices_Clone_nil Tryz.lCloneR 0 c w
    change Calls Tryz.prog 19 _ _ _ at hcon
    refine hcon.mono ?_
    rintro e w' ⟨rfl, rfl⟩
    exact ⟨_, rfl, Own.nil _ _ _ _ _, Below.refl _ _⟩
  · have hc : ∀ j u, (flat encR xs)[j]? = some u → w.cell? ⟨b, o + j, none⟩ = some u := by
      intro j u hu
      rcases Nat.eq_zero_or_pos xs.length with h0 | h0
      · have hx0 : xs = [] := List.eq_nil_of_length_eq_zero h0
        subst hx0; simp [flat] at hu
      · obtain ⟨b', o', e, hc⟩ := hx.2 h0
        cases e; exact hc j u hu
    obtain ⟨i0, hi, hz0, hz1, hz2⟩ := info_parts infoR
    have hcon := AnyE.slices_Clone Tryz.lCloneR i0 _ 3 40 hi hz0 hz1 hz2 rfl (by decide) Tryz.sizeOf25 b o xs.length c (flat encR xs) w (by rw [flat_length (k := 3) (fun _ => rfl)]) (by unfold maxLen; have := hx.1; omega) hl hc (fun u hu => by
      obtain ⟨x, _, hu⟩ := List.mem_flatMap.1 hu
      simp [encR] at hu; rcases hu with rfl | rfl | rfl <;> rfl)
    change Calls Tryz.prog 19 _ _ _ at hcon
    refine hcon.mono ?_
    rintro e w' ⟨v, he, hown, _, hb⟩
    exact ⟨v, he, hown, hb⟩
end Go.Proofs.YtpnobpnknlpjnaaGreatDoor
