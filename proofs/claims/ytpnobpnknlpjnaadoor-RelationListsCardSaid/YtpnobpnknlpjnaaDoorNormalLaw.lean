/- The law's own normal form. -/
import Derived.Test.YtpnobpnknlpjnaaDoorNormal
import Derived.Test.YtpnobpnknlpjnaaDoorQTail
import Derived.Test.YtpnobpnknlpjnaaDoorAppend
import Derived.NoCompiler
set_option linter.unusedVariables false
set_option linter.unusedSimpArgs false
namespace Go.Proofs.YtpnobpnknlpjnaaDoor
open Go Go.RowKit

theorem ins_at {α : Type} [DecidableEq α] {lt : α → α → Bool} (x : α) : ∀ (ys : List α) (k : Nat), k ≤ ys.length → (∀ j y, j < k → ys[j]? = some y → lt y x = true) → (∀ y, ys[k]? = some y → lt y x = false) →
    K.ins lt ys x = if ys[k]? = some x then ys else ys.take k ++ x :: ys.drop k
  | [], k, hk, _, _ => by
    have : k = 0 := by simpa using hk
    subst this; simp [K.ins]
  | y :: r, 0, _, _, h2 => by
    have h := h2 y (by simp)
    simp only [K.ins, h, List.getElem?_cons_zero, List.take_zero, List.drop_zero, List.nil_append]
    by_cases e : y = x <;> simp [e]
  | y :: r, k + 1, hk, h1, h2 => by
    have h := h1 0 y (by omega) (by simp)
    have ih := ins_at x r k (by simpa using hk) (fun j z hj hz => h1 (j + 1) z (by omega) (by simpa using hz)) (fun z hz => h2 z (by simpa using hz))
    simp only [K.ins, h, if_true, List.getElem?_cons_succ, List.take_succ_cons, List.drop_succ_cons, ih]
    split <;> simp

theorem ins_first (wq : World) (y : Rel) (zs : List Rel) (n : Nat) (hn : n = zs.length) (A : Option Addr) (c : Nat) (ha : A = none ∨ ∃ b o, A = some ⟨b, o, none⟩) (hz : Rd encR wq A zs) (hl : zs.length ≤ 1000) :
    ∃ v' w', (Builtin.append_ #[24, 24] 24 #[.slice (some ⟨wq.heap.size, 0, none⟩) 1 1, .slice A n c]).run Tryd.prog ((wq.alloc (.cells #[.int .i64 y.1, .string y.2.1, .string y.2.2] 33)).drew) = .ok v' w' ∧
      (∃ g' cap', v' = .slice (some ⟨g', 0, none⟩) (1 + n) cap' ∧ Own encR 3 33 wq.heap.size w' v' (y :: zs) ∧ Below wq.heap.size wq w') := by
  subst hn
  have hown : Own encR 3 33 wq.heap.size ((wq.alloc (.cells #[.int .i64 y.1, .string y.2.1, .string y.2.2] 33)).drew) (.slice (some ⟨wq.heap.size, 0, none⟩) 1 1) [y] :=
    World.ownsRow_lit (base := wq.heap.size) (e := 33) (size := 3) wq #[.int .i64 y.1, .string y.2.1, .string y.2.2] 1 (Nat.le_refl _) (by decide) rfl
  have hz2 : Rd encR ((wq.alloc (.cells #[.int .i64 y.1, .string y.2.1, .string y.2.2] 33)).drew) A zs := (hz.alloc _).drew 1
  obtain ⟨v', w', hr, ho, hg, _⟩ := run_append_any (P := Tryd.prog) encR 3 (fun _ => rfl) (fun x u hu => by simp [encR] at hu; rcases hu with rfl | rfl | rfl <;> rfl) (by decide) wq.heap.size 24 24 33 _ 40 Tryd.underlying24 infoR rfl (by decide) _ _ [y] zs A c ha hown hz2 (by simp) (by simp; omega)
  refine ⟨v', w', hr, ?_⟩
  obtain ⟨g', cap', rfl, hg', _⟩ := World.ownsRow.form ho (by simp)
  refine ⟨g', cap', ?_, ho, ?_⟩
  · simp [Nat.add_comm]
  · exact (below_drewN ((Below.refl _ wq).alloc (Nat.le_refl _) _) 1).grown hg (by simp) (fun j hj => by cases hj; simp)
theorem ins_second (wq w' : World) (xs zs : List Rel) (m n : Nat) (hm : m = xs.length) (hn : n = zs.length) (B : Option Addr) (hB : (B = none ∧ xs = []) ∨ ∃ b o, B = some ⟨b, o, none⟩) (hx : Rd encR wq B xs) (hb : Below wq.heap.size wq w') (g' cap' base : Nat) (hz : Own encR 3 33 base w' (.slice (some ⟨g', 0, none⟩) n cap') zs) (hpos : 0 < zs.length) (hl : xs.length + zs.length ≤ 2000) :
    ∃ v2 w2, (Builtin.append_ #[24, 24] 24 #[.slice B m m, .slice (some ⟨g', 0, none⟩) n cap']).run Tryd.prog w' = .ok v2 w2 ∧ Own encR 3 33 wq.heap.size w2 v2 (xs ++ zs) ∧ Below wq.heap.size wq w2 := by
  subst hm hn
  obtain ⟨A, c, hv, _, hrd⟩ := hz.rd (by omega)
  obtain ⟨rfl, _⟩ : A = some ⟨g', 0, none⟩ ∧ c = cap' := by simp only [Value.slice.injEq] at hv; exact ⟨hv.1.symm, hv.2.2.symm⟩
  obtain ⟨v2, w2, hr, ho, hg⟩ := run_append_full (P := Tryd.prog) encR 3 (fun _ => rfl) (fun x u hu => by simp [encR] at hu; rcases hu with rfl | rfl | rfl <;> rfl) (by decide) 24 24 33 _ 40 Tryd.underlying24 infoR rfl (by decide) w' B xs zs _ cap' hB ⟨_, _, rfl⟩ (hx.below hb) hrd hpos (by omega)
  exact ⟨v2, w2, hr, World.ownsRow.mono ho hb.size, hb.grown hg hb.size (fun j hj => by cases hj)⟩
theorem Rd.take {α : Type} {enc : α → List Value} {k : Nat} (hk : ∀ x, (enc x).length = k) {w : World} {b o : Nat} {xs : List α} (h : Rd enc w (some ⟨b, o, none⟩) xs) (m : Nat) : Rd enc w (some ⟨b, o, none⟩) (xs.take m) := by
  refine ⟨by have := h.1; simp; omega, fun hp => ⟨b, o, rfl, fun j u hj => ?_⟩⟩
  obtain ⟨b', o', e, hc⟩ := h.2 (by simp at hp; omega)
  cases e
  refine hc j u ?_
  have : flat enc xs = flat enc (xs.take m) ++ flat enc (xs.drop m) := by rw [← flat_append, List.take_append_drop]
  rw [this, List.getElem?_append_left (lt_of_get hj)]
  exact hj
theorem Rd.drop {α : Type} {enc : α → List Value} {k : Nat} (hk : ∀ x, (enc x).length = k) {w : World} {b o : Nat} {xs : List α} (h : Rd enc w (some ⟨b, o, none⟩) xs) (m : Nat) (hm : m ≤ xs.length) : Rd enc w (some ⟨b, o + m * k, none⟩) (xs.drop m) := by
  refine ⟨by have := h.1; simp; omega, fun hp => ⟨b, o + m * k, rfl, fun j u hj => ?_⟩⟩
  obtain ⟨b', o', e, hc⟩ := h.2 (by simp at hp; omega)
  cases e
  rw [Nat.add_assoc]
  refine hc _ u ?_
  have : flat enc xs = flat enc (xs.take m) ++ flat enc (xs.drop m) := by rw [← flat_append, List.take_append_drop]
  rw [this, List.getElem?_append_right (by rw [flat_length hk]; simp; rw [Nat.min_eq_left hm]; omega), flat_length hk, List.length_take, Nat.min_eq_left hm, Nat.add_sub_cancel_left]
  exact hj

set_option maxRecDepth 10000 in
set_option maxHeartbeats 8000000 in
theorem normal_law (A : Option Addr) (c : Nat) (xs : List Rel) (w : World) (hx : Rd encR w A xs) (hl : xs.length ≤ 1000) :
    Calls Tryd.prog 15 #[.slice A xs.length c] w fun e w' => ∃ v, e = .returned v ∧ Own encR 3 33 w.heap.size w' v (normalS xs) ∧ Below w.heap.size w w' := by
  have HX := Lib.hid hx
  clear hx
  go_enter Tryd.func15, Tryd.ntmps15
  go_wp2_with fail
  go_loopw [3, 4] (fun v i wr => ∃ k : Nat, k ≤ xs.length ∧ i = .int .i64 k ∧ ∃ ys : List Rel, Hid (ys = ((xs.map flipS).take k).foldl (K.ins rltS) []) ∧ ys.length ≤ k ∧ Hid (Own encR 3 33 w.heap.size wr v ys) ∧ Hid (Below w.heap.size w wr)) (fun _ i _ => xs.length - (intOf i).toNat)
  case atStart => exact ⟨0, Nat.zero_le _, rfl, [], Lib.hid rfl, Nat.le_refl _, Lib.hid (Own.nil _ _ _ _ _), Lib.hid (Below.refl _ _)⟩
  case round =>
    obtain ⟨k, hk, rfl, ys, HY, hyl, HO, HB⟩ := hrel
    by_cases hlt : k < xs.length
    · obtain ⟨x, ex⟩ := get_of_lt hlt
      obtain ⟨b0, o0, rfl, x0, x1, x2⟩ := (HX.out.below HB.out).rel ex
      have EX := Lib.hid ex
      clear ex
      have hcase : (x.1 = 4 ∧ K.slt x.2.2 x.2.1 = true) ∨ (x.1 = 4 ∧ K.slt x.2.2 x.2.1 = false) ∨ x.1 ≠ 4 := by
        by_cases h : x.1 = 4
        · cases h2 : K.slt x.2.2 x.2.1
          · exact .inr (.inl ⟨h, rfl⟩)
          · exact .inl ⟨h, rfl⟩
        · exact .inr (.inr h)
      rcases hcase with ⟨h4, hgt⟩ | ⟨h4, hgt⟩ | h4
      · have hf : flipS x = (x.1, x.2.2, x.2.1) := if_pos ⟨h4, hgt⟩
        have hb : (x.1 == 4) = true := by simp [h4]
        have hb2 : Op.bytesLess x.2.2.toList x.2.1.toList = true := hgt
        have HF := Lib.hid hf
        clear hf h4 hgt
        go_wp2_with fail
        clear hb hb2
        have c0 : (wr.alloc (.cells #[.int .i64 x.1, .string x.2.2, .string x.2.1] 33)).cell? ⟨wr.heap.size, 0, none⟩ = some (.int .i64 (flipS x).1) := by rw [HF.out]; simp
        have c1 : (wr.alloc (.cells #[.int .i64 x.1, .string x.2.2, .string x.2.1] 33)).cell? ⟨wr.heap.size, 1, none⟩ = some (.string (flipS x).2.1) := by rw [HF.out]; simp
        have c2 : (wr.alloc (.cells #[.int .i64 x.1, .string x.2.2, .string x.2.1] 33)).cell? ⟨wr.heap.size, 2, none⟩ = some (.string (flipS x).2.2) := by rw [HF.out]; simp
        have HOW : Own encR 3 33 w.heap.size (wr.alloc (.cells #[.int .i64 x.1, .string x.2.2, .string x.2.1] 33)) u3 ys := World.ownsRow.alloc HO.out _
        have HBW : Below w.heap.size w (wr.alloc (.cells #[.int .i64 x.1, .string x.2.2, .string x.2.1] 33)) := HB.out.alloc HB.out.size _
        have hNW : wr.heap.size < (wr.alloc (.cells #[.int .i64 x.1, .string x.2.2, .string x.2.1] 33)).heap.size := by simp
        have hNo : ∀ j, u3.ownBlock = some j → j < wr.heap.size := fun j hj => (HO.out.lt j hj).2
        have hNb : w.heap.size ≤ wr.heap.size := HB.out.size
        generalize wr.alloc (.cells #[.int .i64 x.1, .string x.2.2, .string x.2.1] 33) = W at c0 c1 c2 HOW HBW hNW ⊢
        generalize wr.heap.size = N at c0 c1 c2 hNW hNo hNb ⊢
        clear HF
        have hins := ins_at (lt := rltS) (flipS x) ys
        have hnext : ∀ zs, zs = K.ins rltS ys (flipS x) → zs = ((xs.map flipS).take (k + 1)).foldl (K.ins rltS) [] := fun zs h => by
          rw [h, List.take_add_one, List.getElem?_map, EX.out, Option.map_some, Option.toList_some, List.foldl_append, ← HY.out]; rfl
        have HINS := Lib.hid hins
        have HNEXT := Lib.hid hnext
        clear hins hnext x0 x1 x2 HX EX HY HO HB
        generalize flipS x = y at *
        have HOW' := Lib.hid HOW
        have HBW' := Lib.hid HBW
        have hv : ∃ B d, u3 = .slice B ys.length d ∧ (ys = [] ∧ B = none ∧ d = 0 ∨ ∃ g, B = some ⟨g, 0, none⟩ ∧ g < N ∧ ys.length ≤ d ∧ d ≤ maxLen) := by
          rcases HOW.2 with ⟨h, h1⟩ | ⟨g, cap, cur, h, h2, h3, h4, h5, _⟩
          · have := List.eq_nil_of_length_eq_zero h1
            subst this
            exact ⟨none, 0, h, .inl ⟨rfl, rfl, rfl⟩⟩
          · exact ⟨_, cap, h, .inr ⟨g, rfl, hNo g (by rw [h]; rfl), h4, h5⟩⟩
        obtain ⟨B, d, rfl, hB⟩ := hv
        clear HOW HBW hNo
        go_wp2_with fail
        go_loopw [6] (fun j wi => ∃ m : Nat, m ≤ ys.length ∧ j = .int .i64 m ∧ Hid (∀ i z, i < m → ys[i]? = some z → rltS z y = true) ∧ Hid (Below W.heap.size W wi)) (fun j _ => ys.length - (intOf j).toNat)
        case atStart => exact ⟨0, Nat.zero_le _, rfl, Lib.hid (fun i z hi => absurd hi (by omega)), Lib.hid (Below.refl _ _)⟩
        case round =>
          obtain ⟨m, hm, rfl, HL, HI⟩ := hrel
          have d0 := below_cell HI.out c0
          have d1 := below_cell HI.out c1
          have d2 := below_cell HI.out c2
          have HOI := Lib.hid (HOW'.out.below HI.out)
          by_cases hml : m < ys.length
          · rcases hB with ⟨rfl, _⟩ | ⟨g, rfl, hgN, hyd, hdm⟩
            · exact absurd hml (by simp)
            obtain ⟨z, ez⟩ := get_of_lt hml
            obtain ⟨z0, z1, z2⟩ := HOI.out.rel ez
            have EZ := Lib.hid ez
            clear ez c0 c1 c2
            go_wp2_with fail
            have k0 := cell_regrown z0
            have k1 := cell_regrown z1
            have k2 := cell_regrown z2
            have k3 := cell_regrown d0
            have k4 := cell_regrown d1
            have k5 := cell_regrown d2
            have cQ := low_call (w := wr) (fun W _ => before_any z y W)
            refine wp_region_low_tail 11 (by kernel_rfl) (by kernel_rfl) ?_
            simp only [List.take_succ_cons, List.take_zero, List.drop_succ_cons, List.drop_zero, Act.put, Act.eval, Array.getD_eq_getD_getElem?]
            repeat (first | go_big_quiet_step (exact cQ _ _) | quiet_step (exact cQ _ _))
            refine wpQuiet_nil ?_
            intro w2 hw2
            have hb2 := low_of hw2
            have HI2 := Lib.hid (below_step HI.out HI.out.size hb2)
            clear hw2 k0 k1 k2 k3 k4 k5 cQ
            cases hlz : rltS z y with
            | true =>
              have HLZ := Lib.hid hlz
              clear hlz z0 z1 z2 d0 d1 d2 hb2
              go_wp2_with fail
              go_roundw
              case rel =>
                refine ⟨m + 1, by omega, by go_num, Lib.hid (fun i z' hi hz => ?_), HI2⟩
                rcases Nat.lt_or_ge i m with h | h
                · exact HL.out i z' h hz
                · have : i = m := by omega
                  subst this
                  rw [EZ.out] at hz; cases hz; exact HLZ.out
              case measure => simp [intOf]; omega
            | false =>
              have e0 := below_cell hb2 d0
              have e1 := below_cell hb2 d1
              have e2 := below_cell hb2 d2
              have f0 := below_cell hb2 z0
              have f1 := below_cell hb2 z1
              have f2 := below_cell hb2 z2
              have hmn : ((m : Int) == (ys.length : Int)) = false := by simp; omega
              have hq : ∀ w, (binOp .neq 33 (.agg #[.int .i64 z.1, .string z.2.1, .string z.2.2]) (.agg #[.int .i64 y.1, .string y.2.1, .string y.2.2])).run Tryd.prog w = .ok (.bool (!decide (z = y))) w := neqR z y
              have hi := HINS.out m hm HL.out (fun z' hz' => by rw [EZ.out] at hz'; cases hz'; exact hlz)
              rw [EZ.out] at hi
              have HIN := Lib.hid hi
              clear hi z0 z1 z2 d0 d1 d2 hlz
              have HOQ := Lib.hid (HOI.out.below hb2)
              have HBQ := Lib.hid (below_step HBW'.out HBW'.out.size HI2.out)
              clear hb2
              by_cases e : z = y
              · rw [decide_eq_true e] at hq
                have HN := Lib.hid (HNEXT.out ys (by rw [HIN.out, if_pos (by rw [e])]))
                clear e HIN
                go_wp2_with fail
                go_quiet (fail)
                go_wp2_with fail
                go_roundw
                case rel => exact ⟨k + 1, by omega, by go_num, ys, HN, by omega, Lib.hid HOQ.out, Lib.hid (below_drewN HBQ.out _)⟩
                case measure => simp [intOf]; omega
              · rw [decide_eq_false e] at hq
                have HN := Lib.hid (HNEXT.out _ (HIN.out.trans (if_neg (fun h => e (Option.some.inj h)))).symm)
                clear e HIN
                go_wp2_with fail
                go_quiet (fail)
                go_wp2_with fail
                clear hq f0 f1 f2
                have hmd : m ≤ d := by omega
                have hdm0 : ¬ d = m := by omega
                have q0 : (w2.drewN nq).cell? ⟨N, 0, none⟩ = some (.int .i64 y.1) := by rw [World.cell?_drewN]; exact e0
                have q1 : (w2.drewN nq).cell? ⟨N, 1, none⟩ = some (.string y.2.1) := by rw [World.cell?_drewN]; exact e1
                have q2 : (w2.drewN nq).cell? ⟨N, 2, none⟩ = some (.string y.2.2) := by rw [World.cell?_drewN]; exact e2
                have HOX : Hid (Own encR 3 33 w.heap.size (w2.drewN nq) (.slice (some ⟨g, 0, none⟩) ys.length d) ys) := Lib.hid HOQ.out
                have HBX : Hid (Below w.heap.size w (w2.drewN nq)) := Lib.hid (below_drewN HBQ.out _)
                generalize w2.drewN nq = wq at q0 q1 q2 HOX HBX ⊢
                clear e0 e1 e2 HOQ HBQ HOI HI2 HI HOW' HBW'
                have hrd : Rd encR wq (some ⟨g, 0, none⟩) ys := by
                  obtain ⟨A, c, hv, _, hrd⟩ := HOX.out.rd (by omega)
                  cases hv; exact hrd
                have h1 := ins_first wq y (ys.drop m) (ys.length - m) (by simp) (some ⟨g, m * 3, none⟩) (d - m) (.inr ⟨_, _, rfl⟩) (by have := hrd.drop (k := 3) (fun _ => rfl) m hm; rwa [Nat.zero_add] at this) (by simp; omega)
                have h2 := fun w' hb g' cap' base hz => ins_second wq w' (ys.take m) (y :: ys.drop m) m (1 + (ys.length - m)) (by simp; omega) (by simp; omega) (some ⟨g, 0, none⟩) (.inr ⟨_, _, rfl⟩) (hrd.take (k := 3) (fun _ => rfl) m) hb g' cap' base hz (by simp) (by simp; omega)
                have H1 := Lib.hid h1
                have H2 := Lib.hid h2
                clear h1 h2 hrd
                go_region_law (first
                  | (refine step_append_run rfl (.tmp 64) (.tmp 67) 24 rfl _ _ rfl rfl H1.out ?_
                     rintro v1 w1 ⟨g1, cap1, rfl, ho1, hb1⟩
                     have HO1 := Lib.hid ho1
                     have HB1 := Lib.hid hb1
                     clear ho1 hb1)
                  | (refine step_append_run rfl (.tmp 62) (.tmp 68) 24 rfl _ _ rfl rfl (H2.out _ HB1.out _ _ _ HO1.out) ?_
                     rintro v2 w2 ⟨ho2, hb2⟩
                     have HO2 := Lib.hid ho2
                     have HB2 := Lib.hid hb2
                     clear ho2 hb2))
                go_wp2_with fail
                go_roundw
                case rel => exact ⟨k + 1, by omega, by go_num, _, HN, by simp <;> omega, Lib.hid (World.ownsRow.mono HO2.out HBX.out.size), Lib.hid (below_step HBX.out HBX.out.size HB2.out)⟩
                case measure => simp [intOf]; omega
          · have hge : ¬ (m : Int) < (ys.length : Int) := by omega
            have hd : decide ((m : Int) < (ys.length : Int)) = false := decide_eq_false hge
            have hmn : ((m : Int) == (ys.length : Int)) = true := by simp; omega
            have hi := HINS.out m hm HL.out (fun z' hz' => by rw [List.getElem?_eq_none (by omega)] at hz'; cases hz')
            have hmy : m = ys.length := by omega
            rw [List.getElem?_eq_none (by omega), if_neg (by simp)] at hi
            have HN := Lib.hid (HNEXT.out _ hi.symm)
            have HBQ := Lib.hid (below_step HBW'.out HBW'.out.size HI.out)
            clear hi
            rcases hB with ⟨rfl, rfl, rfl⟩ | ⟨g, rfl, hgN, hyd, hdm⟩
            · obtain rfl : m = 0 := by simpa using hmy
              clear hmy hge hd hmn hm hyl
              go_wp2_with fail
              go_quiet (fail)
              generalize nq = n1
              go_wp2_with fail
              go_quiet (fail)
              go_wp2_with fail
              generalize nq = n2
              have q0 : ((wr.drewN n1).drewN n2).cell? ⟨N, 0, none⟩ = some (.int .i64 y.1) := by simp only [World.cell?_drewN]; exact d0
              have q1 : ((wr.drewN n1).drewN n2).cell? ⟨N, 1, none⟩ = some (.string y.2.1) := by simp only [World.cell?_drewN]; exact d1
              have q2 : ((wr.drewN n1).drewN n2).cell? ⟨N, 2, none⟩ = some (.string y.2.2) := by simp only [World.cell?_drewN]; exact d2
              have HOX : Hid (Own encR 3 33 w.heap.size ((wr.drewN n1).drewN n2) (.slice none ([] : List Rel).length 0) []) := Lib.hid HOI.out
              have HBX : Hid (Below w.heap.size w ((wr.drewN n1).drewN n2)) := Lib.hid (below_drewN (below_drewN HBQ.out _) _)
              generalize (wr.drewN n1).drewN n2 = wq at q0 q1 q2 HOX HBX ⊢
              clear d0 d1 d2 HOI HI HOW' HBW' c0 c1 c2 HBQ
              have h1 := ins_first wq y [] 0 rfl none 0 (.inl rfl) (Rd.nil _ _ _) (by simp)
              have h2 := fun w' hb g' cap' base hz => ins_second wq w' [] [y] 0 (1 + 0) rfl rfl none (.inl ⟨rfl, rfl⟩) (Rd.nil _ _ _) hb g' cap' base hz (by simp) (by simp)
              have H1 := Lib.hid h1
              have H2 := Lib.hid h2
              clear h1 h2
              go_region_law (first
                | (refine step_append_run rfl (.tmp 64) (.tmp 67) 24 rfl _ _ rfl rfl H1.out ?_
                   rintro v1 w1 ⟨g1, cap1, rfl, ho1, hb1⟩
                   have HO1 := Lib.hid ho1
                   have HB1 := Lib.hid hb1
                   clear ho1 hb1)
                | (refine step_append_run rfl (.tmp 62) (.tmp 68) 24 rfl _ _ rfl rfl (H2.out _ HB1.out _ _ _ HO1.out) ?_
                   rintro v2 w2 ⟨ho2, hb2⟩
                   have HO2 := Lib.hid ho2
                   have HB2 := Lib.hid hb2
                   clear ho2 hb2))
              go_wp2_with fail
              go_roundw
              case rel => exact ⟨k + 1, by omega, by go_num, _, HN, by simp <;> omega, Lib.hid (World.ownsRow.mono HO2.out HBX.out.size), Lib.hid (below_step HBX.out HBX.out.size HB2.out)⟩
              case measure => simp [intOf]; omega
            · by_cases hdm0 : d = m
              · subst hdm0
                have HMY := Lib.hid hmy
                clear hmy hge
                have hmd : d ≤ d := Nat.le_refl _
                go_wp2_with fail
                go_quiet (fail)
                generalize nq = n1
                go_wp2_with fail
                go_quiet (fail)
                go_wp2_with fail
                generalize nq = n2
                have q0 : ((wr.drewN n1).drewN n2).cell? ⟨N, 0, none⟩ = some (.int .i64 y.1) := by simp only [World.cell?_drewN]; exact d0
                have q1 : ((wr.drewN n1).drewN n2).cell? ⟨N, 1, none⟩ = some (.string y.2.1) := by simp only [World.cell?_drewN]; exact d1
                have q2 : ((wr.drewN n1).drewN n2).cell? ⟨N, 2, none⟩ = some (.string y.2.2) := by simp only [World.cell?_drewN]; exact d2
                have HOX : Hid (Own encR 3 33 w.heap.size ((wr.drewN n1).drewN n2) (.slice (some ⟨g, 0, none⟩) ys.length d) ys) := Lib.hid HOI.out
                have HBX : Hid (Below w.heap.size w ((wr.drewN n1).drewN n2)) := Lib.hid (below_drewN (below_drewN HBQ.out _) _)
                generalize (wr.drewN n1).drewN n2 = wq at q0 q1 q2 HOX HBX ⊢
                clear d0 d1 d2 HOI HI HOW' HBW' c0 c1 c2 HBQ
                have hrd : Rd encR wq (some ⟨g, 0, none⟩) ys := by
                  obtain ⟨A, c, hv, _, hrd⟩ := HOX.out.rd (by omega)
                  cases hv; exact hrd
                have h1 := ins_first wq y [] 0 rfl (some ⟨g, 0, none⟩) 0 (.inr ⟨_, _, rfl⟩) (Rd.nil _ _ _) (by simp)
                have h2 := fun w' hb g' cap' base hz => ins_second wq w' (ys.take d) [y] d (1 + 0) (by simp; omega) rfl (some ⟨g, 0, none⟩) (.inr ⟨_, _, rfl⟩) (hrd.take (k := 3) (fun _ => rfl) d) hb g' cap' base hz (by simp) (by simp; omega)
                have HN2 := HN.out
                rw [List.drop_eq_nil_of_le (by have := HMY.out; omega)] at HN2
                have HN := Lib.hid HN2
                clear HN2
                have H1 := Lib.hid h1
                have H2 := Lib.hid h2
                clear h1 h2 hrd
                go_region_law (first
                  | (refine step_append_run rfl (.tmp 64) (.tmp 67) 24 rfl _ _ rfl rfl H1.out ?_
                     rintro v1 w1 ⟨g1, cap1, rfl, ho1, hb1⟩
                     have HO1 := Lib.hid ho1
                     have HB1 := Lib.hid hb1
                     clear ho1 hb1)
                  | (refine step_append_run rfl (.tmp 62) (.tmp 68) 24 rfl _ _ rfl rfl (H2.out _ HB1.out _ _ _ HO1.out) ?_
                     rintro v2 w2 ⟨ho2, hb2⟩
                     have HO2 := Lib.hid ho2
                     have HB2 := Lib.hid hb2
                     clear ho2 hb2))
                go_wp2_with fail
                go_roundw
                case rel => exact ⟨k + 1, by omega, by go_num, _, HN, by simp <;> omega, Lib.hid (World.ownsRow.mono HO2.out HBX.out.size), Lib.hid (below_step HBX.out HBX.out.size HB2.out)⟩
                case measure => simp [intOf]; omega
              · have hmd : m ≤ d := by omega
                have HMY := Lib.hid hmy
                clear hmy hge
                go_wp2_with fail
                go_quiet (fail)
                generalize nq = n1
                go_wp2_with fail
                go_quiet (fail)
                go_wp2_with fail
                generalize nq = n2
                have q0 : ((wr.drewN n1).drewN n2).cell? ⟨N, 0, none⟩ = some (.int .i64 y.1) := by simp only [World.cell?_drewN]; exact d0
                have q1 : ((wr.drewN n1).drewN n2).cell? ⟨N, 1, none⟩ = some (.string y.2.1) := by simp only [World.cell?_drewN]; exact d1
                have q2 : ((wr.drewN n1).drewN n2).cell? ⟨N, 2, none⟩ = some (.string y.2.2) := by simp only [World.cell?_drewN]; exact d2
                have HOX : Hid (Own encR 3 33 w.heap.size ((wr.drewN n1).drewN n2) (.slice (some ⟨g, 0, none⟩) ys.length d) ys) := Lib.hid HOI.out
                have HBX : Hid (Below w.heap.size w ((wr.drewN n1).drewN n2)) := Lib.hid (below_drewN (below_drewN HBQ.out _) _)
                generalize (wr.drewN n1).drewN n2 = wq at q0 q1 q2 HOX HBX ⊢
                clear d0 d1 d2 HOI HI HOW' HBW' c0 c1 c2 HBQ
                have hrd : Rd encR wq (some ⟨g, 0, none⟩) ys := by
                  obtain ⟨A, c, hv, _, hrd⟩ := HOX.out.rd (by omega)
                  cases hv; exact hrd
                have h1 := ins_first wq y [] (ys.length - m) (by have := HMY.out; simp; omega) (some ⟨g, m * 3, none⟩) (d - m) (.inr ⟨_, _, rfl⟩) (Rd.nil _ _ _) (by simp)
                have h2 := fun w' hb g' cap' base hz => ins_second wq w' (ys.take m) [y] m (1 + (ys.length - m)) (by simp; omega) (by have := HMY.out; simp; omega) (some ⟨g, 0, none⟩) (.inr ⟨_, _, rfl⟩) (hrd.take (k := 3) (fun _ => rfl) m) hb g' cap' base hz (by simp) (by simp; omega)
                have HN2 := HN.out
                rw [List.drop_eq_nil_of_le (by have := HMY.out; omega)] at HN2
                have HN := Lib.hid HN2
                clear HN2
                have H1 := Lib.hid h1
                have H2 := Lib.hid h2
                clear h1 h2 hrd
                go_region_law (first
                  | (refine step_append_run rfl (.tmp 64) (.tmp 67) 24 rfl _ _ rfl rfl H1.out ?_
                     rintro v1 w1 ⟨g1, cap1, rfl, ho1, hb1⟩
                     have HO1 := Lib.hid ho1
                     have HB1 := Lib.hid hb1
                     clear ho1 hb1)
                  | (refine step_append_run rfl (.tmp 62) (.tmp 68) 24 rfl _ _ rfl rfl (H2.out _ HB1.out _ _ _ HO1.out) ?_
                     rintro v2 w2 ⟨ho2, hb2⟩
                     have HO2 := Lib.hid ho2
                     have HB2 := Lib.hid hb2
                     clear ho2 hb2))
                go_wp2_with fail
                go_roundw
                case rel => exact ⟨k + 1, by omega, by go_num, _, HN, by simp <;> omega, Lib.hid (World.ownsRow.mono HO2.out HBX.out.size), Lib.hid (below_step HBX.out HBX.out.size HB2.out)⟩
                case measure => simp [intOf]; omega
      · have hf : flipS x = x := if_neg (by simp [hgt])
        have hb : (x.1 == 4) = true := by simp [h4]
        have hb2 : Op.bytesLess x.2.2.toList x.2.1.toList = false := hgt
        have HF := Lib.hid hf
        clear hf h4 hgt
        go_wp2_with fail
        clear hb hb2
        have c0 : (wr.alloc (.cells #[.int .i64 x.1, .string x.2.1, .string x.2.2] 33)).cell? ⟨wr.heap.size, 0, none⟩ = some (.int .i64 (flipS x).1) := by rw [HF.out]; simp
        have c1 : (wr.alloc (.cells #[.int .i64 x.1, .string x.2.1, .string x.2.2] 33)).cell? ⟨wr.heap.size, 1, none⟩ = some (.string (flipS x).2.1) := by rw [HF.out]; simp
        have c2 : (wr.alloc (.cells #[.int .i64 x.1, .string x.2.1, .string x.2.2] 33)).cell? ⟨wr.heap.size, 2, none⟩ = some (.string (flipS x).2.2) := by rw [HF.out]; simp
        have HOW : Own encR 3 33 w.heap.size (wr.alloc (.cells #[.int .i64 x.1, .string x.2.1, .string x.2.2] 33)) u3 ys := World.ownsRow.alloc HO.out _
        have HBW : Below w.heap.size w (wr.alloc (.cells #[.int .i64 x.1, .string x.2.1, .string x.2.2] 33)) := HB.out.alloc HB.out.size _
        have hNW : wr.heap.size < (wr.alloc (.cells #[.int .i64 x.1, .string x.2.1, .string x.2.2] 33)).heap.size := by simp
        have hNo : ∀ j, u3.ownBlock = some j → j < wr.heap.size := fun j hj => (HO.out.lt j hj).2
        have hNb : w.heap.size ≤ wr.heap.size := HB.out.size
        generalize wr.alloc (.cells #[.int .i64 x.1, .string x.2.1, .string x.2.2] 33) = W at c0 c1 c2 HOW HBW hNW ⊢
        generalize wr.heap.size = N at c0 c1 c2 hNW hNo hNb ⊢
        clear HF
        have hins := ins_at (lt := rltS) (flipS x) ys
        have hnext : ∀ zs, zs = K.ins rltS ys (flipS x) → zs = ((xs.map flipS).take (k + 1)).foldl (K.ins rltS) [] := fun zs h => by
          rw [h, List.take_add_one, List.getElem?_map, EX.out, Option.map_some, Option.toList_some, List.foldl_append, ← HY.out]; rfl
        have HINS := Lib.hid hins
        have HNEXT := Lib.hid hnext
        clear hins hnext x0 x1 x2 HX EX HY HO HB
        generalize flipS x = y at *
        have HOW' := Lib.hid HOW
        have HBW' := Lib.hid HBW
        have hv : ∃ B d, u3 = .slice B ys.length d ∧ (ys = [] ∧ B = none ∧ d = 0 ∨ ∃ g, B = some ⟨g, 0, none⟩ ∧ g < N ∧ ys.length ≤ d ∧ d ≤ maxLen) := by
          rcases HOW.2 with ⟨h, h1⟩ | ⟨g, cap, cur, h, h2, h3, h4, h5, _⟩
          · have := List.eq_nil_of_length_eq_zero h1
            subst this
            exact ⟨none, 0, h, .inl ⟨rfl, rfl, rfl⟩⟩
          · exact ⟨_, cap, h, .inr ⟨g, rfl, hNo g (by rw [h]; rfl), h4, h5⟩⟩
        obtain ⟨B, d, rfl, hB⟩ := hv
        clear HOW HBW hNo
        go_wp2_with fail
        go_loopw [6] (fun j wi => ∃ m : Nat, m ≤ ys.length ∧ j = .int .i64 m ∧ Hid (∀ i z, i < m → ys[i]? = some z → rltS z y = true) ∧ Hid (Below W.heap.size W wi)) (fun j _ => ys.length - (intOf j).toNat)
        case atStart => exact ⟨0, Nat.zero_le _, rfl, Lib.hid (fun i z hi => absurd hi (by omega)), Lib.hid (Below.refl _ _)⟩
        case round =>
          obtain ⟨m, hm, rfl, HL, HI⟩ := hrel
          have d0 := below_cell HI.out c0
          have d1 := below_cell HI.out c1
          have d2 := below_cell HI.out c2
          have HOI := Lib.hid (HOW'.out.below HI.out)
          by_cases hml : m < ys.length
          · rcases hB with ⟨rfl, _⟩ | ⟨g, rfl, hgN, hyd, hdm⟩
            · exact absurd hml (by simp)
            obtain ⟨z, ez⟩ := get_of_lt hml
            obtain ⟨z0, z1, z2⟩ := HOI.out.rel ez
            have EZ := Lib.hid ez
            clear ez c0 c1 c2
            go_wp2_with fail
            have k0 := cell_regrown z0
            have k1 := cell_regrown z1
            have k2 := cell_regrown z2
            have k3 := cell_regrown d0
            have k4 := cell_regrown d1
            have k5 := cell_regrown d2
            have cQ := low_call (w := wr) (fun W _ => before_any z y W)
            refine wp_region_low_tail 11 (by kernel_rfl) (by kernel_rfl) ?_
            simp only [List.take_succ_cons, List.take_zero, List.drop_succ_cons, List.drop_zero, Act.put, Act.eval, Array.getD_eq_getD_getElem?]
            repeat (first | go_big_quiet_step (exact cQ _ _) | quiet_step (exact cQ _ _))
            refine wpQuiet_nil ?_
            intro w2 hw2
            have hb2 := low_of hw2
            have HI2 := Lib.hid (below_step HI.out HI.out.size hb2)
            clear hw2 k0 k1 k2 k3 k4 k5 cQ
            cases hlz : rltS z y with
            | true =>
              have HLZ := Lib.hid hlz
              clear hlz z0 z1 z2 d0 d1 d2 hb2
              go_wp2_with fail
              go_roundw
              case rel =>
                refine ⟨m + 1, by omega, by go_num, Lib.hid (fun i z' hi hz => ?_), HI2⟩
                rcases Nat.lt_or_ge i m with h | h
                · exact HL.out i z' h hz
                · have : i = m := by omega
                  subst this
                  rw [EZ.out] at hz; cases hz; exact HLZ.out
              case measure => simp [intOf]; omega
            | false =>
              have e0 := below_cell hb2 d0
              have e1 := below_cell hb2 d1
              have e2 := below_cell hb2 d2
              have f0 := below_cell hb2 z0
              have f1 := below_cell hb2 z1
              have f2 := below_cell hb2 z2
              have hmn : ((m : Int) == (ys.length : Int)) = false := by simp; omega
              have hq : ∀ w, (binOp .neq 33 (.agg #[.int .i64 z.1, .string z.2.1, .string z.2.2]) (.agg #[.int .i64 y.1, .string y.2.1, .string y.2.2])).run Tryd.prog w = .ok (.bool (!decide (z = y))) w := neqR z y
              have hi := HINS.out m hm HL.out (fun z' hz' => by rw [EZ.out] at hz'; cases hz'; exact hlz)
              rw [EZ.out] at hi
              have HIN := Lib.hid hi
              clear hi z0 z1 z2 d0 d1 d2 hlz
              have HOQ := Lib.hid (HOI.out.below hb2)
              have HBQ := Lib.hid (below_step HBW'.out HBW'.out.size HI2.out)
              clear hb2
              by_cases e : z = y
              · rw [decide_eq_true e] at hq
                have HN := Lib.hid (HNEXT.out ys (by rw [HIN.out, if_pos (by rw [e])]))
                clear e HIN
                go_wp2_with fail
                go_quiet (fail)
                go_wp2_with fail
                go_roundw
                case rel => exact ⟨k + 1, by omega, by go_num, ys, HN, by omega, Lib.hid HOQ.out, Lib.hid (below_drewN HBQ.out _)⟩
                case measure => simp [intOf]; omega
              · rw [decide_eq_false e] at hq
                have HN := Lib.hid (HNEXT.out _ (HIN.out.trans (if_neg (fun h => e (Option.some.inj h)))).symm)
                clear e HIN
                go_wp2_with fail
                go_quiet (fail)
                go_wp2_with fail
                clear hq f0 f1 f2
                have hmd : m ≤ d := by omega
                have hdm0 : ¬ d = m := by omega
                have q0 : (w2.drewN nq).cell? ⟨N, 0, none⟩ = some (.int .i64 y.1) := by rw [World.cell?_drewN]; exact e0
                have q1 : (w2.drewN nq).cell? ⟨N, 1, none⟩ = some (.string y.2.1) := by rw [World.cell?_drewN]; exact e1
                have q2 : (w2.drewN nq).cell? ⟨N, 2, none⟩ = some (.string y.2.2) := by rw [World.cell?_drewN]; exact e2
                have HOX : Hid (Own encR 3 33 w.heap.size (w2.drewN nq) (.slice (some ⟨g, 0, none⟩) ys.length d) ys) := Lib.hid HOQ.out
                have HBX : Hid (Below w.heap.size w (w2.drewN nq)) := Lib.hid (below_drewN HBQ.out _)
                generalize w2.drewN nq = wq at q0 q1 q2 HOX HBX ⊢
                clear e0 e1 e2 HOQ HBQ HOI HI2 HI HOW' HBW'
                have hrd : Rd encR wq (some ⟨g, 0, none⟩) ys := by
                  obtain ⟨A, c, hv, _, hrd⟩ := HOX.out.rd (by omega)
                  cases hv; exact hrd
                have h1 := ins_first wq y (ys.drop m) (ys.length - m) (by simp) (some ⟨g, m * 3, none⟩) (d - m) (.inr ⟨_, _, rfl⟩) (by have := hrd.drop (k := 3) (fun _ => rfl) m hm; rwa [Nat.zero_add] at this) (by simp; omega)
                have h2 := fun w' hb g' cap' base hz => ins_second wq w' (ys.take m) (y :: ys.drop m) m (1 + (ys.length - m)) (by simp; omega) (by simp; omega) (some ⟨g, 0, none⟩) (.inr ⟨_, _, rfl⟩) (hrd.take (k := 3) (fun _ => rfl) m) hb g' cap' base hz (by simp) (by simp; omega)
                have H1 := Lib.hid h1
                have H2 := Lib.hid h2
                clear h1 h2 hrd
                go_region_law (first
                  | (refine step_append_run rfl (.tmp 64) (.tmp 67) 24 rfl _ _ rfl rfl H1.out ?_
                     rintro v1 w1 ⟨g1, cap1, rfl, ho1, hb1⟩
                     have HO1 := Lib.hid ho1
                     have HB1 := Lib.hid hb1
                     clear ho1 hb1)
                  | (refine step_append_run rfl (.tmp 62) (.tmp 68) 24 rfl _ _ rfl rfl (H2.out _ HB1.out _ _ _ HO1.out) ?_
                     rintro v2 w2 ⟨ho2, hb2⟩
                     have HO2 := Lib.hid ho2
                     have HB2 := Lib.hid hb2
                     clear ho2 hb2))
                go_wp2_with fail
                go_roundw
                case rel => exact ⟨k + 1, by omega, by go_num, _, HN, by simp <;> omega, Lib.hid (World.ownsRow.mono HO2.out HBX.out.size), Lib.hid (below_step HBX.out HBX.out.size HB2.out)⟩
                case measure => simp [intOf]; omega
          · have hge : ¬ (m : Int) < (ys.length : Int) := by omega
            have hd : decide ((m : Int) < (ys.length : Int)) = false := decide_eq_false hge
            have hmn : ((m : Int) == (ys.length : Int)) = true := by simp; omega
            have hi := HINS.out m hm HL.out (fun z' hz' => by rw [List.getElem?_eq_none (by omega)] at hz'; cases hz')
            have hmy : m = ys.length := by omega
            rw [List.getElem?_eq_none (by omega), if_neg (by simp)] at hi
            have HN := Lib.hid (HNEXT.out _ hi.symm)
            have HBQ := Lib.hid (below_step HBW'.out HBW'.out.size HI.out)
            clear hi
            rcases hB with ⟨rfl, rfl, rfl⟩ | ⟨g, rfl, hgN, hyd, hdm⟩
            · obtain rfl : m = 0 := by simpa using hmy
              clear hmy hge hd hmn hm hyl
              go_wp2_with fail
              go_quiet (fail)
              generalize nq = n1
              go_wp2_with fail
              go_quiet (fail)
              go_wp2_with fail
              generalize nq = n2
              have q0 : ((wr.drewN n1).drewN n2).cell? ⟨N, 0, none⟩ = some (.int .i64 y.1) := by simp only [World.cell?_drewN]; exact d0
              have q1 : ((wr.drewN n1).drewN n2).cell? ⟨N, 1, none⟩ = some (.string y.2.1) := by simp only [World.cell?_drewN]; exact d1
              have q2 : ((wr.drewN n1).drewN n2).cell? ⟨N, 2, none⟩ = some (.string y.2.2) := by simp only [World.cell?_drewN]; exact d2
              have HOX : Hid (Own encR 3 33 w.heap.size ((wr.drewN n1).drewN n2) (.slice none ([] : List Rel).length 0) []) := Lib.hid HOI.out
              have HBX : Hid (Below w.heap.size w ((wr.drewN n1).drewN n2)) := Lib.hid (below_drewN (below_drewN HBQ.out _) _)
              generalize (wr.drewN n1).drewN n2 = wq at q0 q1 q2 HOX HBX ⊢
              clear d0 d1 d2 HOI HI HOW' HBW' c0 c1 c2 HBQ
              have h1 := ins_first wq y [] 0 rfl none 0 (.inl rfl) (Rd.nil _ _ _) (by simp)
              have h2 := fun w' hb g' cap' base hz => ins_second wq w' [] [y] 0 (1 + 0) rfl rfl none (.inl ⟨rfl, rfl⟩) (Rd.nil _ _ _) hb g' cap' base hz (by simp) (by simp)
              have H1 := Lib.hid h1
              have H2 := Lib.hid h2
              clear h1 h2
              go_region_law (first
                | (refine step_append_run rfl (.tmp 64) (.tmp 67) 24 rfl _ _ rfl rfl H1.out ?_
                   rintro v1 w1 ⟨g1, cap1, rfl, ho1, hb1⟩
                   have HO1 := Lib.hid ho1
                   have HB1 := Lib.hid hb1
                   clear ho1 hb1)
                | (refine step_append_run rfl (.tmp 62) (.tmp 68) 24 rfl _ _ rfl rfl (H2.out _ HB1.out _ _ _ HO1.out) ?_
                   rintro v2 w2 ⟨ho2, hb2⟩
                   have HO2 := Lib.hid ho2
                   have HB2 := Lib.hid hb2
                   clear ho2 hb2))
              go_wp2_with fail
              go_roundw
              case rel => exact ⟨k + 1, by omega, by go_num, _, HN, by simp <;> omega, Lib.hid (World.ownsRow.mono HO2.out HBX.out.size), Lib.hid (below_step HBX.out HBX.out.size HB2.out)⟩
              case measure => simp [intOf]; omega
            · by_cases hdm0 : d = m
              · subst hdm0
                have HMY := Lib.hid hmy
                clear hmy hge
                have hmd : d ≤ d := Nat.le_refl _
                go_wp2_with fail
                go_quiet (fail)
                generalize nq = n1
                go_wp2_with fail
                go_quiet (fail)
                go_wp2_with fail
                generalize nq = n2
                have q0 : ((wr.drewN n1).drewN n2).cell? ⟨N, 0, none⟩ = some (.int .i64 y.1) := by simp only [World.cell?_drewN]; exact d0
                have q1 : ((wr.drewN n1).drewN n2).cell? ⟨N, 1, none⟩ = some (.string y.2.1) := by simp only [World.cell?_drewN]; exact d1
                have q2 : ((wr.drewN n1).drewN n2).cell? ⟨N, 2, none⟩ = some (.string y.2.2) := by simp only [World.cell?_drewN]; exact d2
                have HOX : Hid (Own encR 3 33 w.heap.size ((wr.drewN n1).drewN n2) (.slice (some ⟨g, 0, none⟩) ys.length d) ys) := Lib.hid HOI.out
                have HBX : Hid (Below w.heap.size w ((wr.drewN n1).drewN n2)) := Lib.hid (below_drewN (below_drewN HBQ.out _) _)
                generalize (wr.drewN n1).drewN n2 = wq at q0 q1 q2 HOX HBX ⊢
                clear d0 d1 d2 HOI HI HOW' HBW' c0 c1 c2 HBQ
                have hrd : Rd encR wq (some ⟨g, 0, none⟩) ys := by
                  obtain ⟨A, c, hv, _, hrd⟩ := HOX.out.rd (by omega)
                  cases hv; exact hrd
                have h1 := ins_first wq y [] 0 rfl (some ⟨g, 0, none⟩) 0 (.inr ⟨_, _, rfl⟩) (Rd.nil _ _ _) (by simp)
                have h2 := fun w' hb g' cap' base hz => ins_second wq w' (ys.take d) [y] d (1 + 0) (by simp; omega) rfl (some ⟨g, 0, none⟩) (.inr ⟨_, _, rfl⟩) (hrd.take (k := 3) (fun _ => rfl) d) hb g' cap' base hz (by simp) (by simp; omega)
                have HN2 := HN.out
                rw [List.drop_eq_nil_of_le (by have := HMY.out; omega)] at HN2
                have HN := Lib.hid HN2
                clear HN2
                have H1 := Lib.hid h1
                have H2 := Lib.hid h2
                clear h1 h2 hrd
                go_region_law (first
                  | (refine step_append_run rfl (.tmp 64) (.tmp 67) 24 rfl _ _ rfl rfl H1.out ?_
                     rintro v1 w1 ⟨g1, cap1, rfl, ho1, hb1⟩
                     have HO1 := Lib.hid ho1
                     have HB1 := Lib.hid hb1
                     clear ho1 hb1)
                  | (refine step_append_run rfl (.tmp 62) (.tmp 68) 24 rfl _ _ rfl rfl (H2.out _ HB1.out _ _ _ HO1.out) ?_
                     rintro v2 w2 ⟨ho2, hb2⟩
                     have HO2 := Lib.hid ho2
                     have HB2 := Lib.hid hb2
                     clear ho2 hb2))
                go_wp2_with fail
                go_roundw
                case rel => exact ⟨k + 1, by omega, by go_num, _, HN, by simp <;> omega, Lib.hid (World.ownsRow.mono HO2.out HBX.out.size), Lib.hid (below_step HBX.out HBX.out.size HB2.out)⟩
                case measure => simp [intOf]; omega
              · have hmd : m ≤ d := by omega
                have HMY := Lib.hid hmy
                clear hmy hge
                go_wp2_with fail
                go_quiet (fail)
                generalize nq = n1
                go_wp2_with fail
                go_quiet (fail)
                go_wp2_with fail
                generalize nq = n2
                have q0 : ((wr.drewN n1).drewN n2).cell? ⟨N, 0, none⟩ = some (.int .i64 y.1) := by simp only [World.cell?_drewN]; exact d0
                have q1 : ((wr.drewN n1).drewN n2).cell? ⟨N, 1, none⟩ = some (.string y.2.1) := by simp only [World.cell?_drewN]; exact d1
                have q2 : ((wr.drewN n1).drewN n2).cell? ⟨N, 2, none⟩ = some (.string y.2.2) := by simp only [World.cell?_drewN]; exact d2
                have HOX : Hid (Own encR 3 33 w.heap.size ((wr.drewN n1).drewN n2) (.slice (some ⟨g, 0, none⟩) ys.length d) ys) := Lib.hid HOI.out
                have HBX : Hid (Below w.heap.size w ((wr.drewN n1).drewN n2)) := Lib.hid (below_drewN (below_drewN HBQ.out _) _)
                generalize (wr.drewN n1).drewN n2 = wq at q0 q1 q2 HOX HBX ⊢
                clear d0 d1 d2 HOI HI HOW' HBW' c0 c1 c2 HBQ
                have hrd : Rd encR wq (some ⟨g, 0, none⟩) ys := by
                  obtain ⟨A, c, hv, _, hrd⟩ := HOX.out.rd (by omega)
                  cases hv; exact hrd
                have h1 := ins_first wq y [] (ys.length - m) (by have := HMY.out; simp; omega) (some ⟨g, m * 3, none⟩) (d - m) (.inr ⟨_, _, rfl⟩) (Rd.nil _ _ _) (by simp)
                have h2 := fun w' hb g' cap' base hz => ins_second wq w' (ys.take m) [y] m (1 + (ys.length - m)) (by simp; omega) (by have := HMY.out; simp; omega) (some ⟨g, 0, none⟩) (.inr ⟨_, _, rfl⟩) (hrd.take (k := 3) (fun _ => rfl) m) hb g' cap' base hz (by simp) (by simp; omega)
                have HN2 := HN.out
                rw [List.drop_eq_nil_of_le (by have := HMY.out; omega)] at HN2
                have HN := Lib.hid HN2
                clear HN2
                have H1 := Lib.hid h1
                have H2 := Lib.hid h2
                clear h1 h2 hrd
                go_region_law (first
                  | (refine step_append_run rfl (.tmp 64) (.tmp 67) 24 rfl _ _ rfl rfl H1.out ?_
                     rintro v1 w1 ⟨g1, cap1, rfl, ho1, hb1⟩
                     have HO1 := Lib.hid ho1
                     have HB1 := Lib.hid hb1
                     clear ho1 hb1)
                  | (refine step_append_run rfl (.tmp 62) (.tmp 68) 24 rfl _ _ rfl rfl (H2.out _ HB1.out _ _ _ HO1.out) ?_
                     rintro v2 w2 ⟨ho2, hb2⟩
                     have HO2 := Lib.hid ho2
                     have HB2 := Lib.hid hb2
                     clear ho2 hb2))
                go_wp2_with fail
                go_roundw
                case rel => exact ⟨k + 1, by omega, by go_num, _, HN, by simp <;> omega, Lib.hid (World.ownsRow.mono HO2.out HBX.out.size), Lib.hid (below_step HBX.out HBX.out.size HB2.out)⟩
                case measure => simp [intOf]; omega
      · have hf : flipS x = x := if_neg (by simp [h4])
        have hb : (x.1 == 4) = false := by simp [h4]
        have HF := Lib.hid hf
        clear hf h4
        go_wp2_with fail
        clear hb
        have c0 : (wr.alloc (.cells #[.int .i64 x.1, .string x.2.1, .string x.2.2] 33)).cell? ⟨wr.heap.size, 0, none⟩ = some (.int .i64 (flipS x).1) := by rw [HF.out]; simp
        have c1 : (wr.alloc (.cells #[.int .i64 x.1, .string x.2.1, .string x.2.2] 33)).cell? ⟨wr.heap.size, 1, none⟩ = some (.string (flipS x).2.1) := by rw [HF.out]; simp
        have c2 : (wr.alloc (.cells #[.int .i64 x.1, .string x.2.1, .string x.2.2] 33)).cell? ⟨wr.heap.size, 2, none⟩ = some (.string (flipS x).2.2) := by rw [HF.out]; simp
        have HOW : Own encR 3 33 w.heap.size (wr.alloc (.cells #[.int .i64 x.1, .string x.2.1, .string x.2.2] 33)) u3 ys := World.ownsRow.alloc HO.out _
        have HBW : Below w.heap.size w (wr.alloc (.cells #[.int .i64 x.1, .string x.2.1, .string x.2.2] 33)) := HB.out.alloc HB.out.size _
        have hNW : wr.heap.size < (wr.alloc (.cells #[.int .i64 x.1, .string x.2.1, .string x.2.2] 33)).heap.size := by simp
        have hNo : ∀ j, u3.ownBlock = some j → j < wr.heap.size := fun j hj => (HO.out.lt j hj).2
        have hNb : w.heap.size ≤ wr.heap.size := HB.out.size
        generalize wr.alloc (.cells #[.int .i64 x.1, .string x.2.1, .string x.2.2] 33) = W at c0 c1 c2 HOW HBW hNW ⊢
        generalize wr.heap.size = N at c0 c1 c2 hNW hNo hNb ⊢
        clear HF
        have hins := ins_at (lt := rltS) (flipS x) ys
        have hnext : ∀ zs, zs = K.ins rltS ys (flipS x) → zs = ((xs.map flipS).take (k + 1)).foldl (K.ins rltS) [] := fun zs h => by
          rw [h, List.take_add_one, List.getElem?_map, EX.out, Option.map_some, Option.toList_some, List.foldl_append, ← HY.out]; rfl
        have HINS := Lib.hid hins
        have HNEXT := Lib.hid hnext
        clear hins hnext x0 x1 x2 HX EX HY HO HB
        generalize flipS x = y at *
        have HOW' := Lib.hid HOW
        have HBW' := Lib.hid HBW
        have hv : ∃ B d, u3 = .slice B ys.length d ∧ (ys = [] ∧ B = none ∧ d = 0 ∨ ∃ g, B = some ⟨g, 0, none⟩ ∧ g < N ∧ ys.length ≤ d ∧ d ≤ maxLen) := by
          rcases HOW.2 with ⟨h, h1⟩ | ⟨g, cap, cur, h, h2, h3, h4, h5, _⟩
          · have := List.eq_nil_of_length_eq_zero h1
            subst this
            exact ⟨none, 0, h, .inl ⟨rfl, rfl, rfl⟩⟩
          · exact ⟨_, cap, h, .inr ⟨g, rfl, hNo g (by rw [h]; rfl), h4, h5⟩⟩
        obtain ⟨B, d, rfl, hB⟩ := hv
        clear HOW HBW hNo
        go_wp2_with fail
        go_loopw [6] (fun j wi => ∃ m : Nat, m ≤ ys.length ∧ j = .int .i64 m ∧ Hid (∀ i z, i < m → ys[i]? = some z → rltS z y = true) ∧ Hid (Below W.heap.size W wi)) (fun j _ => ys.length - (intOf j).toNat)
        case atStart => exact ⟨0, Nat.zero_le _, rfl, Lib.hid (fun i z hi => absurd hi (by omega)), Lib.hid (Below.refl _ _)⟩
        case round =>
          obtain ⟨m, hm, rfl, HL, HI⟩ := hrel
          have d0 := below_cell HI.out c0
          have d1 := below_cell HI.out c1
          have d2 := below_cell HI.out c2
          have HOI := Lib.hid (HOW'.out.below HI.out)
          by_cases hml : m < ys.length
          · rcases hB with ⟨rfl, _⟩ | ⟨g, rfl, hgN, hyd, hdm⟩
            · exact absurd hml (by simp)
            obtain ⟨z, ez⟩ := get_of_lt hml
            obtain ⟨z0, z1, z2⟩ := HOI.out.rel ez
            have EZ := Lib.hid ez
            clear ez c0 c1 c2
            go_wp2_with fail
            have k0 := cell_regrown z0
            have k1 := cell_regrown z1
            have k2 := cell_regrown z2
            have k3 := cell_regrown d0
            have k4 := cell_regrown d1
            have k5 := cell_regrown d2
            have cQ := low_call (w := wr) (fun W _ => before_any z y W)
            refine wp_region_low_tail 11 (by kernel_rfl) (by kernel_rfl) ?_
            simp only [List.take_succ_cons, List.take_zero, List.drop_succ_cons, List.drop_zero, Act.put, Act.eval, Array.getD_eq_getD_getElem?]
            repeat (first | go_big_quiet_step (exact cQ _ _) | quiet_step (exact cQ _ _))
            refine wpQuiet_nil ?_
            intro w2 hw2
            have hb2 := low_of hw2
            have HI2 := Lib.hid (below_step HI.out HI.out.size hb2)
            clear hw2 k0 k1 k2 k3 k4 k5 cQ
            cases hlz : rltS z y with
            | true =>
              have HLZ := Lib.hid hlz
              clear hlz z0 z1 z2 d0 d1 d2 hb2
              go_wp2_with fail
              go_roundw
              case rel =>
                refine ⟨m + 1, by omega, by go_num, Lib.hid (fun i z' hi hz => ?_), HI2⟩
                rcases Nat.lt_or_ge i m with h | h
                · exact HL.out i z' h hz
                · have : i = m := by omega
                  subst this
                  rw [EZ.out] at hz; cases hz; exact HLZ.out
              case measure => simp [intOf]; omega
            | false =>
              have e0 := below_cell hb2 d0
              have e1 := below_cell hb2 d1
              have e2 := below_cell hb2 d2
              have f0 := below_cell hb2 z0
              have f1 := below_cell hb2 z1
              have f2 := below_cell hb2 z2
              have hmn : ((m : Int) == (ys.length : Int)) = false := by simp; omega
              have hq : ∀ w, (binOp .neq 33 (.agg #[.int .i64 z.1, .string z.2.1, .string z.2.2]) (.agg #[.int .i64 y.1, .string y.2.1, .string y.2.2])).run Tryd.prog w = .ok (.bool (!decide (z = y))) w := neqR z y
              have hi := HINS.out m hm HL.out (fun z' hz' => by rw [EZ.out] at hz'; cases hz'; exact hlz)
              rw [EZ.out] at hi
              have HIN := Lib.hid hi
              clear hi z0 z1 z2 d0 d1 d2 hlz
              have HOQ := Lib.hid (HOI.out.below hb2)
              have HBQ := Lib.hid (below_step HBW'.out HBW'.out.size HI2.out)
              clear hb2
              by_cases e : z = y
              · rw [decide_eq_true e] at hq
                have HN := Lib.hid (HNEXT.out ys (by rw [HIN.out, if_pos (by rw [e])]))
                clear e HIN
                go_wp2_with fail
                go_quiet (fail)
                go_wp2_with fail
                go_roundw
                case rel => exact ⟨k + 1, by omega, by go_num, ys, HN, by omega, Lib.hid HOQ.out, Lib.hid (below_drewN HBQ.out _)⟩
                case measure => simp [intOf]; omega
              · rw [decide_eq_false e] at hq
                have HN := Lib.hid (HNEXT.out _ (HIN.out.trans (if_neg (fun h => e (Option.some.inj h)))).symm)
                clear e HIN
                go_wp2_with fail
                go_quiet (fail)
                go_wp2_with fail
                clear hq f0 f1 f2
                have hmd : m ≤ d := by omega
                have hdm0 : ¬ d = m := by omega
                have q0 : (w2.drewN nq).cell? ⟨N, 0, none⟩ = some (.int .i64 y.1) := by rw [World.cell?_drewN]; exact e0
                have q1 : (w2.drewN nq).cell? ⟨N, 1, none⟩ = some (.string y.2.1) := by rw [World.cell?_drewN]; exact e1
                have q2 : (w2.drewN nq).cell? ⟨N, 2, none⟩ = some (.string y.2.2) := by rw [World.cell?_drewN]; exact e2
                have HOX : Hid (Own encR 3 33 w.heap.size (w2.drewN nq) (.slice (some ⟨g, 0, none⟩) ys.length d) ys) := Lib.hid HOQ.out
                have HBX : Hid (Below w.heap.size w (w2.drewN nq)) := Lib.hid (below_drewN HBQ.out _)
                generalize w2.drewN nq = wq at q0 q1 q2 HOX HBX ⊢
                clear e0 e1 e2 HOQ HBQ HOI HI2 HI HOW' HBW'
                have hrd : Rd encR wq (some ⟨g, 0, none⟩) ys := by
                  obtain ⟨A, c, hv, _, hrd⟩ := HOX.out.rd (by omega)
                  cases hv; exact hrd
                have h1 := ins_first wq y (ys.drop m) (ys.length - m) (by simp) (some ⟨g, m * 3, none⟩) (d - m) (.inr ⟨_, _, rfl⟩) (by have := hrd.drop (k := 3) (fun _ => rfl) m hm; rwa [Nat.zero_add] at this) (by simp; omega)
                have h2 := fun w' hb g' cap' base hz => ins_second wq w' (ys.take m) (y :: ys.drop m) m (1 + (ys.length - m)) (by simp; omega) (by simp; omega) (some ⟨g, 0, none⟩) (.inr ⟨_, _, rfl⟩) (hrd.take (k := 3) (fun _ => rfl) m) hb g' cap' base hz (by simp) (by simp; omega)
                have H1 := Lib.hid h1
                have H2 := Lib.hid h2
                clear h1 h2 hrd
                go_region_law (first
                  | (refine step_append_run rfl (.tmp 64) (.tmp 67) 24 rfl _ _ rfl rfl H1.out ?_
                     rintro v1 w1 ⟨g1, cap1, rfl, ho1, hb1⟩
                     have HO1 := Lib.hid ho1
                     have HB1 := Lib.hid hb1
                     clear ho1 hb1)
                  | (refine step_append_run rfl (.tmp 62) (.tmp 68) 24 rfl _ _ rfl rfl (H2.out _ HB1.out _ _ _ HO1.out) ?_
                     rintro v2 w2 ⟨ho2, hb2⟩
                     have HO2 := Lib.hid ho2
                     have HB2 := Lib.hid hb2
                     clear ho2 hb2))
                go_wp2_with fail
                go_roundw
                case rel => exact ⟨k + 1, by omega, by go_num, _, HN, by simp <;> omega, Lib.hid (World.ownsRow.mono HO2.out HBX.out.size), Lib.hid (below_step HBX.out HBX.out.size HB2.out)⟩
                case measure => simp [intOf]; omega
          · have hge : ¬ (m : Int) < (ys.length : Int) := by omega
            have hd : decide ((m : Int) < (ys.length : Int)) = false := decide_eq_false hge
            have hmn : ((m : Int) == (ys.length : Int)) = true := by simp; omega
            have hi := HINS.out m hm HL.out (fun z' hz' => by rw [List.getElem?_eq_none (by omega)] at hz'; cases hz')
            have hmy : m = ys.length := by omega
            rw [List.getElem?_eq_none (by omega), if_neg (by simp)] at hi
            have HN := Lib.hid (HNEXT.out _ hi.symm)
            have HBQ := Lib.hid (below_step HBW'.out HBW'.out.size HI.out)
            clear hi
            rcases hB with ⟨rfl, rfl, rfl⟩ | ⟨g, rfl, hgN, hyd, hdm⟩
            · obtain rfl : m = 0 := by simpa using hmy
              clear hmy hge hd hmn hm hyl
              go_wp2_with fail
              go_quiet (fail)
              generalize nq = n1
              go_wp2_with fail
              go_quiet (fail)
              go_wp2_with fail
              generalize nq = n2
              have q0 : ((wr.drewN n1).drewN n2).cell? ⟨N, 0, none⟩ = some (.int .i64 y.1) := by simp only [World.cell?_drewN]; exact d0
              have q1 : ((wr.drewN n1).drewN n2).cell? ⟨N, 1, none⟩ = some (.string y.2.1) := by simp only [World.cell?_drewN]; exact d1
              have q2 : ((wr.drewN n1).drewN n2).cell? ⟨N, 2, none⟩ = some (.string y.2.2) := by simp only [World.cell?_drewN]; exact d2
              have HOX : Hid (Own encR 3 33 w.heap.size ((wr.drewN n1).drewN n2) (.slice none ([] : List Rel).length 0) []) := Lib.hid HOI.out
              have HBX : Hid (Below w.heap.size w ((wr.drewN n1).drewN n2)) := Lib.hid (below_drewN (below_drewN HBQ.out _) _)
              generalize (wr.drewN n1).drewN n2 = wq at q0 q1 q2 HOX HBX ⊢
              clear d0 d1 d2 HOI HI HOW' HBW' c0 c1 c2 HBQ
              have h1 := ins_first wq y [] 0 rfl none 0 (.inl rfl) (Rd.nil _ _ _) (by simp)
              have h2 := fun w' hb g' cap' base hz => ins_second wq w' [] [y] 0 (1 + 0) rfl rfl none (.inl ⟨rfl, rfl⟩) (Rd.nil _ _ _) hb g' cap' base hz (by simp) (by simp)
              have H1 := Lib.hid h1
              have H2 := Lib.hid h2
              clear h1 h2
              go_region_law (first
                | (refine step_append_run rfl (.tmp 64) (.tmp 67) 24 rfl _ _ rfl rfl H1.out ?_
                   rintro v1 w1 ⟨g1, cap1, rfl, ho1, hb1⟩
                   have HO1 := Lib.hid ho1
                   have HB1 := Lib.hid hb1
                   clear ho1 hb1)
                | (refine step_append_run rfl (.tmp 62) (.tmp 68) 24 rfl _ _ rfl rfl (H2.out _ HB1.out _ _ _ HO1.out) ?_
                   rintro v2 w2 ⟨ho2, hb2⟩
                   have HO2 := Lib.hid ho2
                   have HB2 := Lib.hid hb2
                   clear ho2 hb2))
              go_wp2_with fail
              go_roundw
              case rel => exact ⟨k + 1, by omega, by go_num, _, HN, by simp <;> omega, Lib.hid (World.ownsRow.mono HO2.out HBX.out.size), Lib.hid (below_step HBX.out HBX.out.size HB2.out)⟩
              case measure => simp [intOf]; omega
            · by_cases hdm0 : d = m
              · subst hdm0
                have HMY := Lib.hid hmy
                clear hmy hge
                have hmd : d ≤ d := Nat.le_refl _
                go_wp2_with fail
                go_quiet (fail)
                generalize nq = n1
                go_wp2_with fail
                go_quiet (fail)
                go_wp2_with fail
                generalize nq = n2
                have q0 : ((wr.drewN n1).drewN n2).cell? ⟨N, 0, none⟩ = some (.int .i64 y.1) := by simp only [World.cell?_drewN]; exact d0
                have q1 : ((wr.drewN n1).drewN n2).cell? ⟨N, 1, none⟩ = some (.string y.2.1) := by simp only [World.cell?_drewN]; exact d1
                have q2 : ((wr.drewN n1).drewN n2).cell? ⟨N, 2, none⟩ = some (.string y.2.2) := by simp only [World.cell?_drewN]; exact d2
                have HOX : Hid (Own encR 3 33 w.heap.size ((wr.drewN n1).drewN n2) (.slice (some ⟨g, 0, none⟩) ys.length d) ys) := Lib.hid HOI.out
                have HBX : Hid (Below w.heap.size w ((wr.drewN n1).drewN n2)) := Lib.hid (below_drewN (below_drewN HBQ.out _) _)
                generalize (wr.drewN n1).drewN n2 = wq at q0 q1 q2 HOX HBX ⊢
                clear d0 d1 d2 HOI HI HOW' HBW' c0 c1 c2 HBQ
                have hrd : Rd encR wq (some ⟨g, 0, none⟩) ys := by
                  obtain ⟨A, c, hv, _, hrd⟩ := HOX.out.rd (by omega)
                  cases hv; exact hrd
                have h1 := ins_first wq y [] 0 rfl (some ⟨g, 0, none⟩) 0 (.inr ⟨_, _, rfl⟩) (Rd.nil _ _ _) (by simp)
                have h2 := fun w' hb g' cap' base hz => ins_second wq w' (ys.take d) [y] d (1 + 0) (by simp; omega) rfl (some ⟨g, 0, none⟩) (.inr ⟨_, _, rfl⟩) (hrd.take (k := 3) (fun _ => rfl) d) hb g' cap' base hz (by simp) (by simp; omega)
                have HN2 := HN.out
                rw [List.drop_eq_nil_of_le (by have := HMY.out; omega)] at HN2
                have HN := Lib.hid HN2
                clear HN2
                have H1 := Lib.hid h1
                have H2 := Lib.hid h2
                clear h1 h2 hrd
                go_region_law (first
                  | (refine step_append_run rfl (.tmp 64) (.tmp 67) 24 rfl _ _ rfl rfl H1.out ?_
                     rintro v1 w1 ⟨g1, cap1, rfl, ho1, hb1⟩
                     have HO1 := Lib.hid ho1
                     have HB1 := Lib.hid hb1
                     clear ho1 hb1)
                  | (refine step_append_run rfl (.tmp 62) (.tmp 68) 24 rfl _ _ rfl rfl (H2.out _ HB1.out _ _ _ HO1.out) ?_
                     rintro v2 w2 ⟨ho2, hb2⟩
                     have HO2 := Lib.hid ho2
                     have HB2 := Lib.hid hb2
                     clear ho2 hb2))
                go_wp2_with fail
                go_roundw
                case rel => exact ⟨k + 1, by omega, by go_num, _, HN, by simp <;> omega, Lib.hid (World.ownsRow.mono HO2.out HBX.out.size), Lib.hid (below_step HBX.out HBX.out.size HB2.out)⟩
                case measure => simp [intOf]; omega
              · have hmd : m ≤ d := by omega
                have HMY := Lib.hid hmy
                clear hmy hge
                go_wp2_with fail
                go_quiet (fail)
                generalize nq = n1
                go_wp2_with fail
                go_quiet (fail)
                go_wp2_with fail
                generalize nq = n2
                have q0 : ((wr.drewN n1).drewN n2).cell? ⟨N, 0, none⟩ = some (.int .i64 y.1) := by simp only [World.cell?_drewN]; exact d0
                have q1 : ((wr.drewN n1).drewN n2).cell? ⟨N, 1, none⟩ = some (.string y.2.1) := by simp only [World.cell?_drewN]; exact d1
                have q2 : ((wr.drewN n1).drewN n2).cell? ⟨N, 2, none⟩ = some (.string y.2.2) := by simp only [World.cell?_drewN]; exact d2
                have HOX : Hid (Own encR 3 33 w.heap.size ((wr.drewN n1).drewN n2) (.slice (some ⟨g, 0, none⟩) ys.length d) ys) := Lib.hid HOI.out
                have HBX : Hid (Below w.heap.size w ((wr.drewN n1).drewN n2)) := Lib.hid (below_drewN (below_drewN HBQ.out _) _)
                generalize (wr.drewN n1).drewN n2 = wq at q0 q1 q2 HOX HBX ⊢
                clear d0 d1 d2 HOI HI HOW' HBW' c0 c1 c2 HBQ
                have hrd : Rd encR wq (some ⟨g, 0, none⟩) ys := by
                  obtain ⟨A, c, hv, _, hrd⟩ := HOX.out.rd (by omega)
                  cases hv; exact hrd
                have h1 := ins_first wq y [] (ys.length - m) (by have := HMY.out; simp; omega) (some ⟨g, m * 3, none⟩) (d - m) (.inr ⟨_, _, rfl⟩) (Rd.nil _ _ _) (by simp)
                have h2 := fun w' hb g' cap' base hz => ins_second wq w' (ys.take m) [y] m (1 + (ys.length - m)) (by simp; omega) (by have := HMY.out; simp; omega) (some ⟨g, 0, none⟩) (.inr ⟨_, _, rfl⟩) (hrd.take (k := 3) (fun _ => rfl) m) hb g' cap' base hz (by simp) (by simp; omega)
                have HN2 := HN.out
                rw [List.drop_eq_nil_of_le (by have := HMY.out; omega)] at HN2
                have HN := Lib.hid HN2
                clear HN2
                have H1 := Lib.hid h1
                have H2 := Lib.hid h2
                clear h1 h2 hrd
                go_region_law (first
                  | (refine step_append_run rfl (.tmp 64) (.tmp 67) 24 rfl _ _ rfl rfl H1.out ?_
                     rintro v1 w1 ⟨g1, cap1, rfl, ho1, hb1⟩
                     have HO1 := Lib.hid ho1
                     have HB1 := Lib.hid hb1
                     clear ho1 hb1)
                  | (refine step_append_run rfl (.tmp 62) (.tmp 68) 24 rfl _ _ rfl rfl (H2.out _ HB1.out _ _ _ HO1.out) ?_
                     rintro v2 w2 ⟨ho2, hb2⟩
                     have HO2 := Lib.hid ho2
                     have HB2 := Lib.hid hb2
                     clear ho2 hb2))
                go_wp2_with fail
                go_roundw
                case rel => exact ⟨k + 1, by omega, by go_num, _, HN, by simp <;> omega, Lib.hid (World.ownsRow.mono HO2.out HBX.out.size), Lib.hid (below_step HBX.out HBX.out.size HB2.out)⟩
                case measure => simp [intOf]; omega
    · have hge : ¬ (k : Int) < (xs.length : Int) := by omega
      have HK := Lib.hid (show ys = normalS xs by rw [HY.out, List.take_of_length_le (by simp; omega)]; rfl)
      clear HY
      go_wp2_with fail
      go_ret
      exact ⟨_, rfl, by rw [← HK.out]; exact HO.out, HB.out⟩
end Go.Proofs.YtpnobpnknlpjnaaDoor
