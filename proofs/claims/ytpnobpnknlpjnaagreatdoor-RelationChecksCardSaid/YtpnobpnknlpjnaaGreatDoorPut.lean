/- Slices of the call's own: an element stored, the rest cleared, the slice cut. -/
import Derived.Test.YtpnobpnknlpjnaaGreatDoorOwn
import Derived.Laws.IdiomCopy
set_option linter.unusedVariables false
set_option linter.unusedSimpArgs false
namespace Go.Proofs.YtpnobpnknlpjnaaGreatDoor.K
theorem compact_snoc {α : Type} [DecidableEq α] (x : α) : ∀ xs : List α, compact (xs ++ [x]) = if xs.getLast? = some x then compact xs else compact xs ++ [x]
  | [] => by simp [compact]
  | [y] => by
    by_cases h : y = x
    · subst h; simp [compact]
    · simp [compact, h]
  | y :: z :: r => by
    have ih := compact_snoc x (z :: r)
    have e1 : (y :: z :: r).getLast? = (z :: r).getLast? := by simp [List.getLast?_cons_cons]
    rw [e1]
    rw [show y :: z :: r ++ [x] = y :: z :: (r ++ [x]) from rfl]
    rw [show z :: r ++ [x] = z :: (r ++ [x]) from rfl] at ih
    rw [compact, ih, compact]
    by_cases h : y = z
    · simp [h]
    · simp only [h, if_false]
      split <;> simp
theorem getLast_take {α : Type} {xs : List α} {k : Nat} (h0 : 1 ≤ k) (hk : k ≤ xs.length) : (xs.take k).getLast? = xs[k - 1]? := by
  rw [List.getLast?_eq_getElem?, List.length_take, Nat.min_eq_left hk, List.getElem?_take, if_pos (by omega)]
/-- One further element. -/
theorem compact_step {α : Type} [DecidableEq α] {xs : List α} {k : Nat} {x y : α} (h0 : 1 ≤ k) (hx : xs[k]? = some x) (hy : xs[k - 1]? = some y) :
    compact (xs.take (k + 1)) = if y = x then compact (xs.take k) else compact (xs.take k) ++ [x] := by
  have hk : k < xs.length := by
    rcases Nat.lt_or_ge k xs.length with h | h
    · exact h
    · rw [List.getElem?_eq_none h] at hx; cases hx
  rw [List.take_add_one, hx]
  simp only [Option.toList_some]
  rw [compact_snoc, getLast_take h0 (by omega), hy]
  simp
end Go.Proofs.YtpnobpnknlpjnaaGreatDoor.K
namespace Go.Proofs.YtpnobpnknlpjnaaGreatDoor
open Go Go.RowKit

/-- Cells of an own block stored one by one. -/
theorem own_setCells {w : World} {base : Nat} {e : TypeId} {size g n cap : Nat} : ∀ (vs : List Value) (o : Nat) (w : World) (xs : List Value), w.ownsRow base e size (.slice (some ⟨g, 0, none⟩) n cap) n xs →
    ∃ ys : List Value, (w.setCells g o vs).ownsRow base e size (.slice (some ⟨g, 0, none⟩) n cap) n ys ∧ w.grownBy (w.setCells g o vs) (some g) ∧ ys.length = xs.length ∧ ∀ t, t < xs.length → ys[t]? = if o ≤ t ∧ t < o + vs.length then vs[t - o]? else xs[t]?
  | [], o, w, xs, h => ⟨xs, h, World.grownBy.refl _ _, rfl, fun t ht => by simp; omega⟩
  | v :: vs, o, w, xs, h => by
    obtain ⟨h1, h2⟩ := h.stored o v
    obtain ⟨ys, h3, h4, h5, h6⟩ := own_setCells (w := w) vs (o + 1) _ _ h1
    refine ⟨ys, h3, World.grownBy.trans h2 h4, by simpa using h5, fun t ht => ?_⟩
    have h6 := h6 t (by simpa using ht)
    rw [h6]
    by_cases e1 : t = o
    · subst e1
      rw [if_neg (by omega), if_pos (by simp), Nat.sub_self]
      simp [ht]
    · by_cases e2 : o + 1 ≤ t ∧ t < o + 1 + vs.length
      · rw [if_pos e2, if_pos (by simp; omega)]
        obtain ⟨d, rfl⟩ : ∃ d, t = o + 1 + d := ⟨t - (o + 1), by omega⟩
        rw [show o + 1 + d - (o + 1) = d by omega, show o + 1 + d - o = d + 1 by omega]
        simp
      · rw [if_neg e2, if_neg (by simp; omega), List.getElem?_set_ne (by omega)]
theorem flat_set {α : Type} {enc : α → List Value} {k : Nat} (hk : ∀ x, (enc x).length = k) (xs : List α) (i : Nat) (hi : i < xs.length) (y : α) (ys : List Value) (hl : ys.length = (flat enc xs).length)
    (h : ∀ t, t < (flat enc xs).length → ys[t]? = if i * k ≤ t ∧ t < i * k + (enc y).length then (enc y)[t - i * k]? else (flat enc xs)[t]?) : ys = flat enc (xs.set i y) := by
  apply List.ext_getElem?
  intro t
  have hfl := flat_length hk xs
  have hfs := flat_length hk (xs.set i y)
  rw [List.length_set] at hfs
  by_cases ht : t < (flat enc xs).length
  · rw [h t ht, hk]
    have h0 : 0 < k := by
      rcases Nat.eq_zero_or_pos k with e | e
      · subst e; rw [Nat.mul_zero] at hfl; omega
      · exact e
    have hq : t / k < xs.length := (Nat.div_lt_iff_lt_mul h0).2 (by omega)
    have hr : t % k < k := Nat.mod_lt _ h0
    have e0 := Nat.div_add_mod' t k
    by_cases e1 : t / k = i
    · have e2 : t = i * k + t % k := by rw [← e1]; exact e0.symm
      rw [if_pos ⟨by omega, by omega⟩]
      have := flat_get hk (xs.set i y) i y (by simp [hi]) (t % k) hr
      rw [← e2] at this
      rw [this, show t - i * k = t % k by omega]
    · rw [if_neg (fun c => e1 (by
        obtain ⟨c1, c2⟩ := c
        exact (Nat.div_eq_of_lt_le c1 (by rw [Nat.add_mul]; omega))))]
      obtain ⟨x, hx⟩ := get_of_lt hq
      have a1 := flat_get hk xs (t / k) x hx (t % k) hr
      have a2 := flat_get hk (xs.set i y) (t / k) x (by rw [List.getElem?_set_ne (by omega)]; exact hx) (t % k) hr
      rw [e0] at a1 a2
      rw [a1, a2]
  · rw [List.getElem?_eq_none (by omega), List.getElem?_eq_none (by omega)]
theorem own_set {α : Type} {enc : α → List Value} {k e base g cap : Nat} (hk : ∀ x, (enc x).length = k) {w : World} {xs : List α} (h : Own enc k e base w (.slice (some ⟨g, 0, none⟩) xs.length cap) xs) (i : Nat) (hi : i < xs.length) (y : α) :
    Own enc k e base (w.setCells g (i * k) (enc y)) (.slice (some ⟨g, 0, none⟩) xs.length cap) (xs.set i y) ∧ w.grownBy (w.setCells g (i * k) (enc y)) (some g) := by
  obtain ⟨ys, h1, h2, h3, h4⟩ := own_setCells (w := w) (enc y) (i * k) w _ h
  have := flat_set hk xs i hi y ys h3 h4
  subst this
  refine ⟨?_, h2⟩
  unfold Own
  rw [List.length_set]
  exact h1
theorem Own.cut {α : Type} {enc : α → List Value} {k e base g cap : Nat} (hk : ∀ x, (enc x).length = k) {w : World} {xs : List α} (h : Own enc k e base w (.slice (some ⟨g, 0, none⟩) xs.length cap) xs) (m : Nat) (hm : m ≤ xs.length) :
    Own enc k e base w (.slice (some ⟨g, 0, none⟩) m cap) (xs.take m) := by
  rcases h.2 with ⟨h', _⟩ | ⟨g', cap', cur, h', hb, hg, hnc, hcm, hcs, htake⟩
  · simp at h'
  · simp only [Value.slice.injEq, Option.some.injEq, Addr.mk.injEq, and_true, true_and] at h'
    obtain ⟨rfl, rfl⟩ := h'
    have hl : (xs.take m).length = m := by simp; omega
    unfold Own
    rw [hl]
    refine ⟨by rw [flat_length hk, hl], .inr ⟨g, cap, cur, rfl, hb, hg, by omega, hcm, hcs, ?_⟩⟩
    have e1 : flat enc xs = flat enc (xs.take m) ++ flat enc (xs.drop m) := by rw [← flat_append, List.take_append_drop]
    have e2 : (flat enc (xs.take m)).length = m * k := by rw [flat_length hk, hl]
    have : cur.toList.take (m * k) = (cur.toList.take (xs.length * k)).take (m * k) := by rw [List.take_take, Nat.min_eq_left (Nat.mul_le_mul_right _ hm)]
    rw [this, htake, e1, ← e2, List.take_left]
/-- The cells of an own slice. -/
theorem Own.at {α : Type} {enc : α → List Value} {k e base g cap : Nat} (hk : ∀ x, (enc x).length = k) {w : World} {xs : List α} (h : Own enc k e base w (.slice (some ⟨g, 0, none⟩) xs.length cap) xs) {i : Nat} {x : α} (hx : xs[i]? = some x) (j : Nat) (hj : j < k) (u : Value) (hu : (enc x)[j]? = some u) :
    w.cell? ⟨g, i * k + j, none⟩ = some u := by
  have hi := lt_of_get hx
  have hlt : i * k + j < xs.length * k := by
    have : (i + 1) * k ≤ xs.length * k := Nat.mul_le_mul_right _ hi
    rw [Nat.add_mul] at this; omega
  rw [World.ownsRow.cellAt h _ hlt, flat_get hk xs i x hx j hj, hu]
theorem Own.unfrozen {α : Type} {enc : α → List Value} {k e base g cap n : Nat} {w : World} {xs : List α} (h : w.ownsRow base e k (.slice (some ⟨g, 0, none⟩) n cap) n (flat enc xs)) (j : Nat) : w.frozen? ⟨g, j, none⟩ = false := World.ownsRow.frozenAt h j

/-- 'clear' of the end of an own slice: what is ahead of it stays. -/
theorem run_clear_own {P : Program} {α : Type} {enc : α → List Value} {k : Nat} (hk : ∀ x, (enc x).length = k) (h0 : 0 < k) {e base g cap : Nat} {w : World} {xs : List α} (h : Own enc k e base w (.slice (some ⟨g, 0, none⟩) xs.length cap) xs)
    (t ty : TypeId) (z : Value) (ht : P.underlying t = some (.slice e)) (hv : ∀ w, (zeroValue e).run P w = .ok z w) (hz : z.cells.size = k) (h1 : ∀ u ∈ z.cells.toList, u.oneCell' = true) (m c : Nat) (hm : m < xs.length) :
    ∃ w', (Builtin.clear_ #[t] ty #[.slice (some ⟨g, m * k, none⟩) (xs.length - m) c]).run P w = .ok (.tuple #[]) w' ∧ Own enc k e base w' (.slice (some ⟨g, 0, none⟩) m cap) (xs.take m) ∧ w.grownBy w' (some g) := by
  have hz2 : (Builtin.zeroCells z.cells (xs.length - m)).toList.length = (xs.length - m) * k := by simp [Builtin.zeroCells, hz]
  have hall : ∀ v ∈ (Builtin.zeroCells z.cells (xs.length - m)).toList, v.oneCell' = true := by
    intro v hv2
    simp only [Builtin.zeroCells, Array.toList_map, List.mem_map] at hv2
    obtain ⟨j, _, rfl⟩ := hv2
    have hlt : j % z.cells.size < z.cells.size := Nat.mod_lt _ (by omega)
    apply h1
    rw [getElem!_pos z.cells _ hlt]
    simp
  have hmk : m * k + (xs.length - m) * k = xs.length * k := by rw [← Nat.add_mul]; congr 1; omega
  have hst := run_storeCells_cells (P := P) g (m * k) (Builtin.zeroCells z.cells (xs.length - m)).toList 0 w (fun j hj => by
    rw [hz2] at hj
    rw [World.ownsRow.cellAt h _ (by omega)]
    rw [List.getElem?_eq_getElem (by rw [flat_length hk]; omega)]
    rfl) (fun j hj => World.ownsRow.frozenAt h _) hall
  obtain ⟨ys, h2, h3, h4, h5⟩ := own_setCells (w := w) (Builtin.zeroCells z.cells (xs.length - m)).toList (m * k) w _ h
  refine ⟨w.setCells g (m * k) (Builtin.zeroCells z.cells (xs.length - m)).toList, ?_, ?_, h3⟩
  · obtain ⟨n, hn⟩ : ∃ n, xs.length - m = n + 1 := ⟨xs.length - m - 1, by omega⟩
    rw [hn] at hst ⊢
    simp only [Nat.add_zero] at hst
    simp [Builtin.clear_, run_underlying ht, hv, hst]
  · rcases h2.2 with ⟨h', _⟩ | ⟨g', cap', cur, h', hb, hg, hnc, hcm, hcs, htake⟩
    · simp at h'
    · simp only [Value.slice.injEq, Option.some.injEq, Addr.mk.injEq, and_true, true_and] at h'
      obtain ⟨rfl, rfl⟩ := h'
      have hl : (xs.take m).length = m := by simp; omega
      unfold Own
      rw [hl]
      refine ⟨by rw [flat_length hk, hl], .inr ⟨g, cap, cur, rfl, hb, hg, by omega, hcm, hcs, ?_⟩⟩
      have : cur.toList.take (m * k) = (cur.toList.take (xs.length * k)).take (m * k) := by rw [List.take_take, Nat.min_eq_left (Nat.mul_le_mul_right _ (by omega))]
      rw [this, htake]
      apply List.ext_getElem?
      intro t'
      have e1 : flat enc xs = flat enc (xs.take m) ++ flat enc (xs.drop m) := by rw [← flat_append, List.take_append_drop]
      have e2 : (flat enc (xs.take m)).length = m * k := by rw [flat_length hk, hl]
      have e3 := flat_length hk xs
      rw [List.getElem?_take]
      by_cases c : t' < m * k
      · rw [if_pos c, h5 t' (by omega), if_neg (by omega), e1, List.getElem?_append_left (by omega)]
      · rw [if_neg c, List.getElem?_eq_none (by omega)]

/-- The same, the length spelled by another name. -/
theorem Own.len {α : Type} {enc : α → List Value} {k e base g cap n : Nat} {w : World} {xs : List α} (h : Own enc k e base w (.slice (some ⟨g, 0, none⟩) n cap) xs) : n = xs.length ∧ n ≤ cap ∧ cap ≤ maxLen := by
  rcases h.2 with ⟨h', _⟩ | ⟨g', cap', cur, h', hb, hg, hnc, hcm, hcs, htake⟩
  · simp at h'
  · simp only [Value.slice.injEq, Option.some.injEq, Addr.mk.injEq, and_true, true_and] at h'
    obtain ⟨_, rfl, rfl⟩ := h'
    exact ⟨rfl, hnc, hcm⟩
theorem Own.rel {e base g cap n : Nat} {w : World} {xs : List Rel} (h : Own encR 3 e base w (.slice (some ⟨g, 0, none⟩) n cap) xs) {i : Nat} {x : Rel} (hx : xs[i]? = some x) :
    w.cell? ⟨g, i * 3, none⟩ = some (.int .i64 x.1) ∧ w.cell? ⟨g, i * 3 + 1, none⟩ = some (.string x.2.1) ∧ w.cell? ⟨g, i * 3 + 2, none⟩ = some (.string x.2.2) := by
  obtain rfl := h.len.1
  exact ⟨h.at (k := 3) (fun _ => rfl) hx 0 (by decide) _ rfl, h.at (k := 3) (fun _ => rfl) hx 1 (by decide) _ rfl, h.at (k := 3) (fun _ => rfl) hx 2 (by decide) _ rfl⟩
theorem Own.arc {e base g cap n : Nat} {w : World} {xs : List Arc} (h : Own encA 2 e base w (.slice (some ⟨g, 0, none⟩) n cap) xs) {i : Nat} {x : Arc} (hx : xs[i]? = some x) :
    w.cell? ⟨g, i * 2, none⟩ = some (.string x.1) ∧ w.cell? ⟨g, i * 2 + 1, none⟩ = some (.string x.2) := by
  obtain rfl := h.len.1
  exact ⟨h.at (k := 2) (fun _ => rfl) hx 0 (by decide) _ rfl, h.at (k := 2) (fun _ => rfl) hx 1 (by decide) _ rfl⟩
theorem Own.ice {α : Type} {enc : α → List Value} {k e base g cap n : Nat} {w : World} {xs : List α} (h : Own enc k e base w (.slice (some ⟨g, 0, none⟩) n cap) xs) (j : Nat) : w.frozen? ⟨g, j, none⟩ = false := by
  obtain rfl := h.len.1
  exact World.ownsRow.frozenAt h j
theorem own_set' {α : Type} {enc : α → List Value} {k e base g cap n : Nat} (hk : ∀ x, (enc x).length = k) {w : World} {xs : List α} (h : Own enc k e base w (.slice (some ⟨g, 0, none⟩) n cap) xs) (i : Nat) (hi : i < n) (y : α) :
    Own enc k e base (w.setCells g (i * k) (enc y)) (.slice (some ⟨g, 0, none⟩) n cap) (xs.set i y) ∧ w.grownBy (w.setCells g (i * k) (enc y)) (some g) := by
  obtain rfl := h.len.1
  exact own_set hk h i hi y
theorem Own.cut' {α : Type} {enc : α → List Value} {k e base g cap n : Nat} (hk : ∀ x, (enc x).length = k) {w : World} {xs : List α} (h : Own enc k e base w (.slice (some ⟨g, 0, none⟩) n cap) xs) (m : Nat) (hm : m ≤ n) :
    Own enc k e base w (.slice (some ⟨g, 0, none⟩) m cap) (xs.take m) := by
  obtain rfl := h.len.1
  exact h.cut hk m hm
theorem run_clear_own' {P : Program} {α : Type} {enc : α → List Value} {k : Nat} (hk : ∀ x, (enc x).length = k) (h0 : 0 < k) {e base g cap n : Nat} {w : World} {xs : List α} (h : Own enc k e base w (.slice (some ⟨g, 0, none⟩) n cap) xs)
    (t : TypeId) (z : Value) (ht : P.underlying t = some (.slice e)) (hv : ∀ w, (zeroValue e).run P w = .ok z w) (hz : z.cells.size = k) (h1 : ∀ u ∈ z.cells.toList, u.oneCell' = true) (m c : Nat) (hm : m < n) :
    ∃ w', (∀ ty, (Builtin.clear_ #[t] ty #[.slice (some ⟨g, m * k, none⟩) (n - m) c]).run P w = .ok (.tuple #[]) w') ∧ Own enc k e base w' (.slice (some ⟨g, 0, none⟩) m cap) (xs.take m) ∧ w.grownBy w' (some g) := by
  obtain rfl := h.len.1
  obtain ⟨w', a, b, d⟩ := run_clear_own hk h0 h t 0 z ht hv hz h1 m c hm
  exact ⟨w', fun ty => a, b, d⟩

/-- One cell of an element stored. -/
theorem own_cell {α : Type} {enc : α → List Value} {k e base g cap n : Nat} (hk : ∀ x, (enc x).length = k) {w : World} {xs : List α} (h : Own enc k e base w (.slice (some ⟨g, 0, none⟩) n cap) xs) {i : Nat} {x y : α} (hx : xs[i]? = some x) {j : Nat} (hj : j < k) (u : Value) (hy : (enc x).set j u = enc y) :
    Own enc k e base (w.setCell ⟨g, i * k + j, none⟩ u) (.slice (some ⟨g, 0, none⟩) n cap) (xs.set i y) ∧ w.grownBy (w.setCell ⟨g, i * k + j, none⟩ u) (some g) := by
  obtain rfl := h.len.1
  obtain ⟨h1, h2⟩ := World.ownsRow.stored h (i * k + j) u
  refine ⟨?_, h2⟩
  have hi := lt_of_get hx
  have hfl := flat_length hk xs
  have := flat_set hk xs i hi y ((flat enc xs).set (i * k + j) u) (by simp) (fun t ht => by
    rw [hk]
    by_cases c : i * k ≤ t ∧ t < i * k + k
    · rw [if_pos c]
      obtain ⟨r, rfl⟩ : ∃ r, t = i * k + r := ⟨t - i * k, by omega⟩
      rw [Nat.add_sub_cancel_left, ← hy]
      by_cases e1 : r = j
      · subst e1
        rw [List.getElem?_set_self ht, List.getElem?_set_self (by rw [hk]; exact hj)]
      · rw [List.getElem?_set_ne (by omega), List.getElem?_set_ne (fun e => e1 e.symm), flat_get hk xs i x hx r (by omega)]
    · rw [if_neg c, List.getElem?_set_ne (by omega)])
  unfold Own
  rw [List.length_set, ← this]
  exact h1
end Go.Proofs.YtpnobpnknlpjnaaGreatDoor
