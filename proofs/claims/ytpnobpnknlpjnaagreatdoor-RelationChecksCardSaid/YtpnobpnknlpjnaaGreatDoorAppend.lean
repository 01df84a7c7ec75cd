/- Appending whole slices. -/
import Derived.Test.YtpnobpnknlpjnaaGreatDoorPut
import Derived.Deep.RegionLaw
import Derived.Deep.Onto
set_option linter.unusedVariables false
set_option linter.unusedSimpArgs false
namespace Go.Proofs.YtpnobpnknlpjnaaGreatDoor
open Go Go.RowKit

/-- An append as a step of a region that draws: whatever the run is shown to give. -/
theorem step_append_run {P : Program} {ops : Array Oper} {o : Oper} {a : Act} {w : World} {K : Act → World → Prop} {Q : Exit → Act → World → Prop} {E : Prop} {R : Value → World → Prop}
    (hg : o.guard = none) (s x : Operand) (t : TypeId) (hop : o.op = Op.call { callee := Callee.builtin Builtin.append, args := #[s, x], argTypes := #[t, t] })
    (S X : Value) (hs : a.eval s = S) (hx : a.eval x = X) (H : ∃ v' w', (Builtin.append_ #[t, t] o.type #[S, X]).run P w = .ok v' w' ∧ R v' w')
    (hK : ∀ v' w', R v' w' → K (a.put o.dst v') w') :
    if Region.wanted o (yielded ops a.tmps) = true then Oper.wp P o a w K Q else E := by
  have hw : Region.wanted o (yielded ops a.tmps) = true := by simp [Region.wanted, hg]
  rw [if_pos hw]
  obtain ⟨v', w', hrun, hr⟩ := H
  unfold Oper.wp
  simp [execOp, hop, resolve, invoke, builtin, hs, hx, hrun, Result.andThen]
  exact hK v' w' hr
/-- The same in a plain region. -/
theorem wpList_append_run {P : Program} {ops : Array Oper} {rest : List Oper} {o : Oper} {a : Act} {w : World} {Q : Exit → Act → World → Prop} {R : Value → World → Prop}
    (hg : o.guard = none) (s x : Operand) (t : TypeId) (hop : o.op = Op.call { callee := Callee.builtin Builtin.append, args := #[s, x], argTypes := #[t, t] })
    (S X : Value) (hs : a.eval s = S) (hx : a.eval x = X) (H : ∃ v' w', (Builtin.append_ #[t, t] o.type #[S, X]).run P w = .ok v' w' ∧ R v' w')
    (hK : ∀ v' w', R v' w' → wpList P ops Q rest (a.put o.dst v') w') : wpList P ops Q (o :: rest) a w :=
  wpList_plain hg fun _ hK' => by
    obtain ⟨v', w', hrun, hr⟩ := H
    unfold Oper.wp
    simp [execOp, hop, resolve, invoke, builtin, hs, hx, hrun, Result.andThen]
    exact hK' _ _ (hK v' w' hr)

theorem run_append_none {P : Program} (w : World) (t ty e : TypeId) (i : TypeInfo) (ht : P.underlying t = some (.slice e)) (hi : P.info? e = some i) (B : Option Addr) (n cap c : Nat) (hn : n ≤ cap) :
    (Builtin.append_ #[t, t] ty #[.slice B n cap, .slice none 0 c]).run P w = .ok (.slice B n cap) w := by
  cases B <;> simp [Builtin.append_, run_underlying ht, sizeOf, typeInfo, hi, Builtin.lenOf, Builtin.firstCells, hn, storeCells]

theorem run_append_any {P : Program} {α : Type} (enc : α → List Value) (k : Nat) (hk : ∀ x, (enc x).length = k) (h1 : ∀ x, ∀ u ∈ enc x, u.oneCell' = true) (h0 : 0 < k)
    (base : Nat) (t ty e : TypeId) (z : Value) (bytes : Nat) (ht : P.underlying t = some (.slice e)) (hinfo : (P.info? e).map (fun i => (i.zero, i.size, i.bytes)) = some (some z, k, bytes)) (hz : z.cells.size = k) (hb0 : 0 < bytes)
    (w : World) (v : Value) (xs zs : List α) (A : Option Addr) (c : Nat) (ha : A = none ∨ ∃ b o, A = some ⟨b, o, none⟩) (HO : Own enc k e base w v xs) (HZ : Rd enc w A zs) (hbase : base ≤ w.heap.size) (hl : (xs.length + zs.length) * bytes ≤ 140737488355328) :
    ∃ v' w', (Builtin.append_ #[t, t] ty #[v, .slice A zs.length c]).run P w = .ok v' w' ∧ Own enc k e base w' v' (xs ++ zs) ∧ w.grownBy w' v.ownBlock ∧ (v'.ownBlock = v.ownBlock ∨ v'.ownBlock = some w.heap.size) := by
  obtain ⟨i0, hi, hzz⟩ := Option.map_eq_some_iff.1 hinfo
  simp only [Prod.mk.injEq] at hzz
  obtain ⟨hz0, hz1, hz2⟩ := hzz
  rcases ha with rfl | ⟨b, o, rfl⟩
  · have hzs : zs = [] := by
      rcases Nat.eq_zero_or_pos zs.length with h | h
      · exact List.eq_nil_of_length_eq_zero h
      · obtain ⟨b, o, e, _⟩ := HZ.2 h; cases e
    subst hzs
    refine ⟨v, w, ?_, by simpa using HO, World.grownBy.refl _ _, .inl rfl⟩
    rcases HO.2 with ⟨rfl, h⟩ | ⟨g, cap, cur, rfl, _, _, hnc, _⟩
    · exact run_append_none w t ty e i0 ht hi none 0 0 c (Nat.le_refl _)
    · exact run_append_none w t ty e i0 ht hi _ _ cap c hnc
  · have hlen : xs.length + zs.length ≤ 140737488355328 := Nat.le_trans (Nat.le_mul_of_pos_right _ hb0) hl
    obtain ⟨v', w', hr, hown, hg, _, hat⟩ := run_append_own_at (P := P) w base t ty e i0 z k bytes ht hi hz0 hz1 hz2 hz h0 v xs.length (flat enc xs) HO ⟨b, o, none⟩ zs.length c (flat enc zs) (flat_length hk zs) (fun j u hj => by
      have hpos : 0 < zs.length := by
        rcases Nat.eq_zero_or_pos zs.length with h | h
        · have : zs = [] := List.eq_nil_of_length_eq_zero h
          subst this; simp [flat] at hj
        · exact h
      obtain ⟨b', o', e', hc⟩ := HZ.2 hpos
      cases e'
      have ha : (⟨b, o, none⟩ : Addr).add j = ⟨b, o + j, none⟩ := by unfold Addr.add; split <;> simp_all
      rw [ha]; exact hc j u hj) (fun u hu => by obtain ⟨x, _, hu⟩ := List.mem_flatMap.1 hu; exact h1 x u hu) (by simp only [maxLen]; omega) hl hbase
    refine ⟨v', w', hr, ?_, hg, hat⟩
    unfold Own
    rw [List.length_append, flat_append]
    exact hown
/-- Onto a slice that is full: a new block. -/
theorem run_append_full {P : Program} {α : Type} (enc : α → List Value) (k : Nat) (hk : ∀ x, (enc x).length = k) (h1 : ∀ x, ∀ u ∈ enc x, u.oneCell' = true) (h0 : 0 < k)
    (t ty e : TypeId) (z : Value) (bytes : Nat) (ht : P.underlying t = some (.slice e)) (hinfo : (P.info? e).map (fun i => (i.zero, i.size, i.bytes)) = some (some z, k, bytes)) (hz : z.cells.size = k) (hb0 : 0 < bytes)
    (w : World) (B : Option Addr) (xs zs : List α) (A : Option Addr) (c : Nat) (hB : (B = none ∧ xs = []) ∨ ∃ b o, B = some ⟨b, o, none⟩) (ha : ∃ b o, A = some ⟨b, o, none⟩) (HX : Rd enc w B xs) (HZ : Rd enc w A zs) (hpos : 0 < zs.length) (hl : (xs.length + zs.length) * bytes ≤ 140737488355328) :
    ∃ v' w', (Builtin.append_ #[t, t] ty #[.slice B xs.length xs.length, .slice A zs.length c]).run P w = .ok v' w' ∧ Own enc k e w.heap.size w' v' (xs ++ zs) ∧ w.grownBy w' none := by
  rcases hB with ⟨rfl, rfl⟩ | ⟨b, o, rfl⟩
  · obtain ⟨b', o', rfl⟩ := ha
    obtain ⟨v', w', h, h2, h3, _⟩ := run_append_any enc k hk h1 h0 w.heap.size t ty e z bytes ht hinfo hz hb0 w (.slice none 0 0) [] zs _ c (.inr ⟨_, _, rfl⟩) (Own.nil _ _ _ _ _) HZ (Nat.le_refl _) hl
    exact ⟨v', w', h, h2, h3⟩
  · obtain ⟨b', o', rfl⟩ := ha
    obtain ⟨i0, hi, hzz⟩ := Option.map_eq_some_iff.1 hinfo
    simp only [Prod.mk.injEq] at hzz
    obtain ⟨hz0, hz1, hz2⟩ := hzz
    have hlen : xs.length + zs.length ≤ 140737488355328 := Nat.le_trans (Nat.le_mul_of_pos_right _ hb0) hl
    have rd : ∀ {b o} {qs : List α}, Rd enc w (some ⟨b, o, none⟩) qs → ∀ j u, (flat enc qs)[j]? = some u → w.cell? ((⟨b, o, none⟩ : Addr).add j) = some u := by
      intro b o qs h j u hj
      have hpos : 0 < qs.length := by
        rcases Nat.eq_zero_or_pos qs.length with h | h
        · have : qs = [] := List.eq_nil_of_length_eq_zero h
          subst this; simp [flat] at hj
        · exact h
      obtain ⟨b', o', e', hc⟩ := h.2 hpos
      cases e'
      have ha : (⟨b, o, none⟩ : Addr).add j = ⟨b, o + j, none⟩ := by unfold Addr.add; split <;> simp_all
      rw [ha]; exact hc j u hj
    obtain ⟨v', w', hrun, r1, r2⟩ := run_append_arg_grows (P := P) w t ty e i0 z k bytes ht hi hz0 hz1 hz2 hz h0 ⟨b, o, none⟩ xs.length xs.length (flat enc xs) (flat_length hk xs) (rd HX) ⟨b', o', none⟩ zs.length c (flat enc zs) (flat_length hk zs) (rd HZ) (by omega) (by simp only [maxLen]; omega) hl
    refine ⟨v', w', hrun, ?_, r2⟩
    unfold Own
    rw [List.length_append, flat_append]
    exact r1
end Go.Proofs.YtpnobpnknlpjnaaGreatDoor
