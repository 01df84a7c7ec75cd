/- Slices of the call's own: an element appended. -/
import Derived.Test.YtpnobpnknlpjnaaGreatDoorSpec
import Derived.Test.YtpnobpnknlpjnaaGreatDoorQTail
import Derived.Maps.AppendAt
import Derived.Deep.AppendLies
set_option linter.unusedVariables false
set_option linter.unusedSimpArgs false
namespace Go.Proofs.YtpnobpnknlpjnaaGreatDoor
open Go Go.RowKit

theorem Own.nil {α : Type} (enc : α → List Value) (k e base : Nat) (w : World) : Own enc k e base w (.slice none 0 0) [] := World.ownsRow_nil _ _ _ _
theorem Own.lt {α : Type} {enc : α → List Value} {k e base : Nat} {w : World} {v : Value} {xs : List α} (h : Own enc k e base w v xs) (j : Nat) (hj : v.ownBlock = some j) : base ≤ j ∧ j < w.heap.size := World.ownsRow.lt h j hj
theorem Own.below {α : Type} {enc : α → List Value} {k e base : Nat} {w w' : World} {v : Value} {xs : List α} (h : Own enc k e base w v xs) (hb : Below w.heap.size w w') : Own enc k e base w' v xs :=
  World.ownsRow.kept (row := none) h ⟨hb.os, hb.tape, hb.output, hb.size, fun i hi _ => hb.block i hi⟩ (by cases v.ownBlock <;> simp)
theorem Own.slice {α : Type} {enc : α → List Value} {k e base : Nat} {w : World} {v : Value} {xs : List α} (h : Own enc k e base w v xs) : ∃ A c, v = .slice A xs.length c := by
  rcases h.2 with ⟨rfl, h1⟩ | ⟨g, cap, cur, rfl, _⟩
  · exact ⟨none, 0, by rw [h1]⟩
  · exact ⟨_, cap, rfl⟩
/-- At 'append(v, y)', y in a block of its own. -/
theorem own_append {α : Type} {P : Program} {ops : Array Oper} {rest : List Oper} {o : Oper} {a : Act} {Q : Exit → Act → World → Prop} {w0 W : World} (enc : α → List Value) (k : Nat) (hk : ∀ x, (enc x).length = k) (h1 : ∀ x, ∀ u ∈ enc x, u.oneCell' = true) (h0 : 0 < k)
    (base : Nat) (hgd : o.guard = none) (s x : Operand) (t e : TypeId) (z : Value) (bytes : Nat)
    (ho : o.op = .call { callee := .builtin .append, args := #[s, x], argTypes := #[t, t] })
    (ht : P.underlying t = some (.slice e)) (hinfo : (P.info? e).map (fun i => (i.zero, i.size, i.bytes)) = some (some z, k, bytes)) (hz : z.cells.size = k) (hb0 : 0 < bytes)
    (v : Value) (xs : List α) (y : α) (cs : Array Value) (hcs : cs = (enc y).toArray) (hs : a.eval s = v) (hx : a.eval x = .slice (some ⟨W.heap.size, 0, none⟩) 1 1)
    (HO : Own enc k e base W v xs) (HB : Below base w0 W) (hbase : base ≤ W.heap.size) (hl : (xs.length + 1) * bytes ≤ 140737488355328)
    (h : ∀ v1 w1, Own enc k e base w1 v1 (xs ++ [y]) → Below base w0 w1 → W.grownBy w1 v.ownBlock → wpList P ops Q rest (a.put o.dst v1) w1) :
    wpList P ops Q (o :: rest) a (W.alloc (.cells cs e)) := by
  subst hcs
  obtain ⟨i0, hi, hzz⟩ := Option.map_eq_some_iff.1 hinfo
  simp only [Prod.mk.injEq] at hzz
  obtain ⟨hz0, hz1, hz2⟩ := hzz
  have hlen : xs.length + 1 ≤ 140737488355328 := Nat.le_trans (Nat.le_mul_of_pos_right _ hb0) hl
  have HO' : (W.alloc (.cells (enc y).toArray e)).ownsRow base e k v xs.length (flat enc xs) := World.ownsRow.alloc HO _
  refine wpList_append_own_at (W.alloc (.cells (enc y).toArray e)) hgd s x t ho base e i0 z k bytes ht hi hz0 hz1 hz2 hz h0 v xs.length (flat enc xs) hs HO' ⟨W.heap.size, 0, none⟩ 1 1 (enc y) hx (by rw [hk]; omega)
    (fun j u hj => World.news_of_block (cs := (enc y).toArray) (t := e) (fr := (0, 0)) (heap_alloc_new W _) j u (by simpa using hj)) (h1 y) (by simp only [maxLen]; omega) hl (by simp; omega) ?_
  intro v1 w1 hown hg _ hat
  refine h v1 w1 ?_ ((HB.alloc hbase _).grown hg (by simp; omega) (fun j hj => (World.ownsRow.lt HO j hj).1)) (World.grownBy.trans (World.grownBy_alloc W _ _) hg)
  unfold Own
  rw [List.length_append, List.length_singleton, flat_append]
  have : flat enc [y] = enc y := by simp [flat]
  rw [this]
  exact hown
/-- A slice literal's block. -/
theorem Rd.new {α : Type} (enc : α → List Value) (W : World) (xs : List α) (e n : Nat) (hn : n = W.heap.size) (cs : Array Value) (hcs : cs = (flat enc xs).toArray) (hl : xs.length ≤ 140737488355328) : Rd enc (W.alloc (.cells cs e)) (some ⟨n, 0, none⟩) xs := by
  subst hcs hn
  refine ⟨hl, fun _ => ⟨_, 0, rfl, fun j u hj => ?_⟩⟩
  rw [Nat.zero_add, World.cell?_alloc_new]
  simpa using hj
end Go.Proofs.YtpnobpnknlpjnaaGreatDoor
