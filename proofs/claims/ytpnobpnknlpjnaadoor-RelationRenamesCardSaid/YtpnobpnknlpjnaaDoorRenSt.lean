/- Two lists of the call's own and an element beside them. -/
import Derived.Test.YtpnobpnknlpjnaaDoorPairs
import Derived.Test.YtpnobpnknlpjnaaDoorOpposed
import Derived.Test.YtpnobpnknlpjnaaDoorRenLaw
set_option linter.unusedVariables false
set_option linter.unusedSimpArgs false
namespace Go.Proofs.YtpnobpnknlpjnaaDoor
open Go Go.RowKit

theorem Own.kept {α : Type} {enc : α → List Value} {k e base : Nat} {w w' : World} {v : Value} {xs : List α} {row : Option Nat} (h : Own enc k e base w v xs) (hg : w.grownBy w' row) (hne : v.ownBlock = none ∨ v.ownBlock ≠ row) : Own enc k e base w' v xs :=
  World.ownsRow.kept h hg hne
structure St (w7 W : World) (va vb : Value) (la lb : List Rel) (N : Nat) (x : Rel) : Prop where
  a : Own encR 3 33 w7.heap.size W va la
  b : Own encR 3 33 w7.heap.size W vb lb
  r : Own encR 3 33 w7.heap.size W (.slice (some ⟨N, 0, none⟩) 1 1) [x]
  ab : va.ownBlock = none ∨ va.ownBlock ≠ vb.ownBlock
  an : va.ownBlock ≠ some N
  bn : vb.ownBlock ≠ some N
  bel : Below w7.heap.size w7 W
theorem own_ne {α : Type} {enc : α → List Value} {k e base : Nat} {W : World} {v : Value} {xs : List α} (h : Own enc k e base W v xs) {q : Nat} (hq : W.heap.size ≤ q) : v.ownBlock ≠ some q := fun e => by have := (h.lt q e).2; omega
theorem St.new {w7 W : World} {va vb : Value} {la lb : List Rel} (a : Own encR 3 33 w7.heap.size W va la) (b : Own encR 3 33 w7.heap.size W vb lb) (ab : va.ownBlock = none ∨ va.ownBlock ≠ vb.ownBlock) (bel : Below w7.heap.size w7 W) (x : Rel) :
    St w7 (W.alloc (.cells #[.int .i64 x.1, .string x.2.1, .string x.2.2] 33)) va vb la lb W.heap.size x where
  a := World.ownsRow.alloc a _
  b := World.ownsRow.alloc b _
  r := ⟨rfl, .inr ⟨_, 1, _, rfl, bel.size, heap_alloc_new W _, Nat.le_refl _, by decide, rfl, rfl⟩⟩
  ab := ab
  an := own_ne a (Nat.le_refl _)
  bn := own_ne b (Nat.le_refl _)
  bel := bel.alloc bel.size _
theorem St.below {w7 W W' : World} {va vb : Value} {la lb : List Rel} {N : Nat} {x : Rel} (h : St w7 W va vb la lb N x) (hb : Below W.heap.size W W') : St w7 W' va vb la lb N x where
  a := h.a.below hb
  b := h.b.below hb
  r := h.r.below hb
  ab := h.ab
  an := h.an
  bn := h.bn
  bel := below_step h.bel h.bel.size hb
theorem St.store {w7 W : World} {va vb : Value} {la lb : List Rel} {N : Nat} {x : Rel} (h : St w7 W va vb la lb N x) (j : Nat) (hj : j < 3) (u : Value) (y : Rel) (hy : (encR x).set j u = encR y) : St w7 (W.setCell ⟨N, j, none⟩ u) va vb la lb N y := by
  obtain ⟨r1, r2⟩ := own_cell (k := 3) (fun _ => rfl) h.r (i := 0) (x := x) rfl hj u hy
  rw [Nat.zero_mul, Nat.zero_add] at r1 r2
  exact { a := h.a.kept r2 (.inr h.an), b := h.b.kept r2 (.inr h.bn), r := r1, ab := h.ab, an := h.an, bn := h.bn, bel := h.bel.grown r2 h.bel.size (fun q hq => by cases hq; exact (h.r.lt N rfl).1) }
theorem St.cells {w7 W : World} {va vb : Value} {la lb : List Rel} {N : Nat} {x : Rel} (h : St w7 W va vb la lb N x) : W.cell? ⟨N, 0, none⟩ = some (.int .i64 x.1) ∧ W.cell? ⟨N, 1, none⟩ = some (.string x.2.1) ∧ W.cell? ⟨N, 2, none⟩ = some (.string x.2.2) := by
  have := Own.rel h.r (i := 0) (x := x) rfl
  simpa using this
theorem St.ice {w7 W : World} {va vb : Value} {la lb : List Rel} {N : Nat} {x : Rel} (h : St w7 W va vb la lb N x) (j : Nat) : W.frozen? ⟨N, j, none⟩ = false := h.r.ice j
theorem appR (base : Nat) (W : World) (xs : List Rel) (y : Rel) (v : Value) (M : Nat) (hM : M = W.heap.size) (ho : Own encR 3 33 base W v xs) (hb : base ≤ W.heap.size) (hl : xs.length ≤ 1000000) :
    ∃ v' w', (Builtin.append_ #[24, 24] 24 #[v, .slice (some ⟨M, 0, none⟩) 1 1]).run Tryd.prog (W.alloc (.cells #[.int .i64 y.1, .string y.2.1, .string y.2.2] 33)) = .ok v' w' ∧ (Own encR 3 33 base w' v' (xs ++ [y]) ∧ Below base W w' ∧ W.grownBy w' v.ownBlock ∧ (v'.ownBlock = v.ownBlock ∨ ∃ q, v'.ownBlock = some q ∧ W.heap.size ≤ q)) :=
  append_yg encR 3 (fun _ => rfl) (fun x u hu => by simp [encR] at hu; rcases hu with rfl | rfl | rfl <;> rfl) (by decide) 24 33 _ 40 Tryd.underlying24 infoR rfl (by decide) (by decide) base W xs y v _ rfl M hM ho hb hl
theorem St.appA {w7 W : World} {va vb : Value} {la lb : List Rel} {N : Nat} {x : Rel} (h : St w7 W va vb la lb N x) (hl : la.length ≤ 1000000) (M : Nat) (hM : M = W.heap.size) :
    ∃ v' w', (Builtin.append_ #[24, 24] 24 #[va, .slice (some ⟨M, 0, none⟩) 1 1]).run Tryd.prog (W.alloc (.cells #[.int .i64 x.1, .string x.2.1, .string x.2.2] 33)) = .ok v' w' ∧ St w7 w' v' vb (la ++ [x]) lb N x := by
  obtain ⟨v', w', hr, ho, _, hg, hat⟩ := appR w7.heap.size W la x va M hM h.a h.bel.size hl
  have hN := (h.r.lt N rfl).2
  refine ⟨v', w', hr, ?_⟩
  exact {
    a := ho
    b := h.b.kept hg (by
      rcases h.ab with h1 | h1
      · rcases hvb : vb.ownBlock with _ | j
        · exact .inl rfl
        · exact .inr (by rw [h1]; simp)
      · exact .inr (fun e => h1 e.symm))
    r := h.r.kept hg (.inr (fun e => h.an e.symm))
    ab := by
      rcases hat with hat | ⟨q, hat, hq⟩
      · rw [hat]; exact h.ab
      · exact .inr (by rw [hat]; exact fun e => own_ne h.b hq e.symm)
    an := by
      rcases hat with hat | ⟨q, hat, hq⟩
      · rw [hat]; exact h.an
      · rw [hat]; intro e; injection e with e; omega
    bn := h.bn
    bel := h.bel.grown hg h.bel.size (fun j hj => (h.a.lt j hj).1) }
theorem St.appB {w7 W : World} {va vb : Value} {la lb : List Rel} {N : Nat} {x : Rel} (h : St w7 W va vb la lb N x) (hl : lb.length ≤ 1000000) (M : Nat) (hM : M = W.heap.size) :
    ∃ v' w', (Builtin.append_ #[24, 24] 24 #[vb, .slice (some ⟨M, 0, none⟩) 1 1]).run Tryd.prog (W.alloc (.cells #[.int .i64 x.1, .string x.2.1, .string x.2.2] 33)) = .ok v' w' ∧ St w7 w' va v' la (lb ++ [x]) N x := by
  obtain ⟨v', w', hr, ho, _, hg, hat⟩ := appR w7.heap.size W lb x vb M hM h.b h.bel.size hl
  have hN := (h.r.lt N rfl).2
  refine ⟨v', w', hr, ?_⟩
  exact {
    a := h.a.kept hg h.ab
    b := ho
    r := h.r.kept hg (.inr (fun e => h.bn e.symm))
    ab := by
      rcases hat with hat | ⟨q, hat, hq⟩
      · rw [hat]; exact h.ab
      · exact .inr (by rw [hat]; exact own_ne h.a hq)
    an := h.an
    bn := by
      rcases hat with hat | ⟨q, hat, hq⟩
      · rw [hat]; exact h.bn
      · rw [hat]; intro e; injection e with e; omega
    bel := h.bel.grown hg h.bel.size (fun j hj => (h.b.lt j hj).1) }
end Go.Proofs.YtpnobpnknlpjnaaDoor
