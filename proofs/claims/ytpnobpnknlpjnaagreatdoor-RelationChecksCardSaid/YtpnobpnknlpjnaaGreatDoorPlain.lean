/- Plain facts for the statements about layer 20: strings in order, relations in order, lists that are sorted. No program in sight. -/
import Derived.Lib.Small
import Derived.Lib.Strings
import Derived.Sort.Statements
namespace Go.Proofs.YtpnobpnknlpjnaaGreatDoor.K
open Go Go.Proofs Go.Sort

/-! ### strings -/
theorem beq_str (a b : ByteArray) : (a.toList == b.toList) = decide (a = b) := by
  rw [Lib.toList_data, Lib.toList_data]
  by_cases h : a = b
  · subst h; simp
  · have h2 : ¬ a.data = b.data := fun e => h (ByteArray.ext e)
    simp [h, h2]
theorem bytesLess_lt : ∀ (x y : List UInt8), Op.bytesLess x y = decide (x < y)
  | [], [] => by simp [Op.bytesLess]
  | _ :: _, [] => by simp [Op.bytesLess]
  | [], _ :: _ => by simp [Op.bytesLess]
  | a :: x, b :: y => by
    rw [Op.bytesLess, bytesLess_lt x y]
    simp only [List.cons_lt_cons_iff]
    by_cases h1 : a < b <;> by_cases h2 : a = b <;> by_cases h3 : x < y <;> simp [h1, h2, h3]
def slt (a b : ByteArray) : Bool := Op.bytesLess a.toList b.toList
theorem slt_iff (a b : ByteArray) : slt a b = true ↔ a.data.toList < b.data.toList := by
  unfold slt; rw [bytesLess_lt, Lib.toList_data, Lib.toList_data]; simp
theorem slt_irrefl (a : ByteArray) : slt a a = false := by
  cases h : slt a a with
  | false => rfl
  | true => exact absurd ((slt_iff a a).1 h) (List.lt_irrefl _)
theorem slt_trans {a b c : ByteArray} (h1 : slt a b = true) (h2 : slt b c = true) : slt a c = true :=
  (slt_iff a c).2 (List.lt_trans ((slt_iff a b).1 h1) ((slt_iff b c).1 h2))
theorem slt_total {a b : ByteArray} (h1 : slt a b = false) (h2 : slt b a = false) : a = b := by
  have h1' : ¬ a.data.toList < b.data.toList := fun e => by rw [(slt_iff a b).2 e] at h1; cases h1
  have h2' : ¬ b.data.toList < a.data.toList := fun e => by rw [(slt_iff b a).2 e] at h2; cases h2
  have : a.data.toList = b.data.toList := List.le_antisymm (List.not_lt.1 h2') (List.not_lt.1 h1')
  exact ByteArray.ext (Array.toList_inj.1 this)
theorem slt_asymm {a b : ByteArray} (h : slt a b = true) : slt b a = false := by
  cases h' : slt b a with
  | false => rfl
  | true => have := slt_trans h h'; rw [slt_irrefl] at this; cases this

/-! ### a strict total order, and lists that are sorted by one -/
structure STO {α : Type} (lt : α → α → Bool) : Prop where
  irrefl : ∀ a, lt a a = false
  trans : ∀ a b c, lt a b = true → lt b c = true → lt a c = true
  total : ∀ a b, lt a b = false → lt b a = false → a = b
theorem STO.asymm {α : Type} {lt : α → α → Bool} (h : STO lt) {a b : α} (hab : lt a b = true) : lt b a = false := by
  cases h' : lt b a with
  | false => rfl
  | true => have := h.trans _ _ _ hab h'; rw [h.irrefl] at this; cases this
theorem STO.ntrans {α : Type} {lt : α → α → Bool} (h : STO lt) {a b c : α} (h1 : lt a b = false) (h2 : lt b c = false) : lt a c = false := by
  cases h' : lt a c with
  | false => rfl
  | true =>
    cases h3 : lt c b with
    | true => have := h.trans _ _ _ h' h3; rw [this] at h1; cases h1
    | false => obtain rfl := h.total _ _ h2 h3; rw [h'] at h1; cases h1
theorem STO.swo {α : Type} {lt : α → α → Bool} (h : STO lt) : SWO lt := ⟨h.irrefl, h.trans, fun _ _ _ => h.ntrans⟩
theorem sto_str : STO slt := ⟨slt_irrefl, fun _ _ _ => slt_trans, fun _ _ => slt_total⟩
/-- The first part decides; if it doesn't, the second one. -/
def lex {α β : Type} (l1 : α → α → Bool) (l2 : β → β → Bool) (x y : α × β) : Bool := l1 x.1 y.1 || (!l1 y.1 x.1 && l2 x.2 y.2)
theorem sto_lex {α β : Type} {l1 : α → α → Bool} {l2 : β → β → Bool} (h1 : STO l1) (h2 : STO l2) : STO (lex l1 l2) where
  irrefl a := by simp [lex, h1.irrefl, h2.irrefl]
  trans a b c hab hbc := by
    simp only [lex, Bool.or_eq_true, Bool.and_eq_true, Bool.not_eq_true'] at *
    rcases hab with hab | ⟨na, hab⟩ <;> rcases hbc with hbc | ⟨nb, hbc⟩
    · exact .inl (h1.trans _ _ _ hab hbc)
    · by_cases e : l1 b.1 c.1 = true
      · exact .inl (h1.trans _ _ _ hab e)
      · have := h1.total _ _ (by simpa using e) nb
        rw [this] at hab; exact .inl hab
    · by_cases e : l1 a.1 b.1 = true
      · exact .inl (h1.trans _ _ _ e hbc)
      · have := h1.total _ _ (by simpa using e) na
        rw [← this] at hbc; exact .inl hbc
    · by_cases e : l1 a.1 c.1 = true
      · exact .inl e
      · exact .inr ⟨h1.ntrans nb na, h2.trans _ _ _ hab hbc⟩
  total a b hab hba := by
    simp only [lex, Bool.or_eq_false_iff, Bool.and_eq_false_iff, Bool.not_eq_false'] at *
    obtain ⟨p, q⟩ := hab
    obtain ⟨r, s⟩ := hba
    have e1 := h1.total _ _ p r
    have q' : l2 a.2 b.2 = false := by rcases q with q | q; · rw [q] at r; cases r
                                       · exact q
    have s' : l2 b.2 a.2 = false := by rcases s with s | s; · rw [s] at p; cases p
                                       · exact s
    exact Prod.ext e1 (h2.total _ _ q' s')
def ilt (a b : Int) : Bool := decide (a < b)
theorem sto_int : STO ilt := ⟨fun a => by simp [ilt], fun a b c h1 h2 => by simp [ilt] at *; omega, fun a b h1 h2 => by simp [ilt] at *; omega⟩

/-- Strictly sorted lists with the same members are one. -/
theorem sorted_one {α : Type} {lt : α → α → Bool} (h : STO lt) : ∀ (xs ys : List α), xs.Pairwise (fun a b => lt a b = true) → ys.Pairwise (fun a b => lt a b = true) → (∀ a, a ∈ xs ↔ a ∈ ys) → xs = ys
  | [], [], _, _, _ => rfl
  | [], y :: ys, _, _, hm => absurd ((hm y).2 List.mem_cons_self) (by simp)
  | x :: xs, [], _, _, hm => absurd ((hm x).1 List.mem_cons_self) (by simp)
  | x :: xs, y :: ys, hx, hy, hm => by
    rw [List.pairwise_cons] at hx hy
    have e : x = y := by
      rcases List.mem_cons.1 ((hm x).1 List.mem_cons_self) with e | e
      · exact e
      · rcases List.mem_cons.1 ((hm y).2 List.mem_cons_self) with e' | e'
        · exact e'.symm
        · have a := hy.1 x e
          have b := hx.1 y e'
          rw [h.asymm a] at b; cases b
    subst e
    congr 1
    refine sorted_one h xs ys hx.2 hy.2 fun a => ⟨fun ha => ?_, fun ha => ?_⟩
    · rcases List.mem_cons.1 ((hm a).1 (List.mem_cons_of_mem _ ha)) with e | e
      · subst e; have := hx.1 a ha; rw [h.irrefl] at this; cases this
      · exact e
    · rcases List.mem_cons.1 ((hm a).2 (List.mem_cons_of_mem _ ha)) with e | e
      · subst e; have := hy.1 a ha; rw [h.irrefl] at this; cases this
      · exact e

/-! ### neighbours that are equal, once -/
def compact {α : Type} [DecidableEq α] : List α → List α
  | [] => []
  | [x] => [x]
  | x :: y :: r => if x = y then compact (y :: r) else x :: compact (y :: r)
theorem mem_compact {α : Type} [DecidableEq α] (a : α) : ∀ xs : List α, a ∈ compact xs ↔ a ∈ xs
  | [] => by simp [compact]
  | [x] => by simp [compact]
  | x :: y :: r => by
    have ih := mem_compact a (y :: r)
    unfold compact
    split
    · rename_i e; subst e; rw [ih]; simp
    · rw [List.mem_cons, ih, List.mem_cons (b := x)]
theorem sorted_compact {α : Type} [DecidableEq α] {lt : α → α → Bool} (h : STO lt) : ∀ xs : List α, xs.Pairwise (fun a b => lt b a = false) → (compact xs).Pairwise (fun a b => lt a b = true)
  | [], _ => by simp [compact]
  | [x], _ => by simp [compact]
  | x :: y :: r, hx => by
    rw [List.pairwise_cons] at hx
    have ih := sorted_compact h (y :: r) hx.2
    unfold compact
    split
    · exact ih
    · rename_i ne
      refine List.pairwise_cons.2 ⟨fun b hb => ?_, ih⟩
      rw [mem_compact] at hb
      have hxy : lt x y = true := by
        cases e : lt x y with
        | true => rfl
        | false => exact absurd (h.total _ _ e (hx.1 y List.mem_cons_self)) ne
      rcases List.mem_cons.1 hb with rfl | hb
      · exact hxy
      · cases e : lt x b with
        | true => rfl
        | false =>
          have := h.total _ _ e (hx.1 b (List.mem_cons_of_mem _ hb))
          subst this
          have := (List.pairwise_cons.1 hx.2).1 x hb
          rw [hxy] at this; cases this
theorem compact_length_le {α : Type} [DecidableEq α] : ∀ xs : List α, (compact xs).length ≤ xs.length
  | [] => by simp [compact]
  | [x] => by simp [compact]
  | x :: y :: r => by
    have ih := compact_length_le (y :: r)
    unfold compact
    split <;> simp at * <;> omega
/-- Sorted, each once: all lists with the same members come to one. -/
theorem compact_one {α : Type} [DecidableEq α] {lt : α → α → Bool} (h : STO lt) {xs ys : List α} (hx : xs.Pairwise (fun a b => lt b a = false)) (hy : ys.Pairwise (fun a b => lt a b = true)) (hm : ∀ a, a ∈ xs ↔ a ∈ ys) : compact xs = ys :=
  sorted_one h _ _ (sorted_compact h xs hx) hy (fun a => by rw [mem_compact, hm])
/-- What the sort's contract says, as a list. -/
theorem sorted_list {α : Type} [Inhabited α] {lt : α → α → Bool} {d : Array α} (h : SortedIn lt 0 d.size d) : d.toList.Pairwise (fun a b => lt b a = false) := by
  rw [List.pairwise_iff_getElem]
  intro i j hi hj hij
  have := h i j (Nat.zero_le _) hij (by simpa using hj)
  rw [getElem!_pos d j (by simpa using hj), getElem!_pos d i (by simpa using hi)] at this
  simpa using this
theorem perm_list {α : Type} [Inhabited α] {d d' : Array α} (h : PermIn 0 d.size d d') : d'.toList.Perm d.toList := by
  obtain ⟨hs, _, hp⟩ := h
  have e1 : d'.extract 0 d.size = d' := by rw [← hs]; simp
  have e2 : d.extract 0 d.size = d := by simp
  rwa [e1, e2] at hp
/-- Put where it belongs, once. -/
def ins {α : Type} [DecidableEq α] (lt : α → α → Bool) : List α → α → List α
  | [], x => [x]
  | y :: r, x => if lt y x then y :: ins lt r x else if y = x then y :: r else x :: y :: r
theorem mem_ins {α : Type} [DecidableEq α] {lt : α → α → Bool} (a x : α) : ∀ ys : List α, a ∈ ins lt ys x ↔ a ∈ ys ∨ a = x
  | [] => by simp [ins]
  | y :: r => by
    have ih := mem_ins a x r (lt := lt)
    unfold ins
    split
    · rw [List.mem_cons, ih, List.mem_cons, or_assoc]
    · split
      · rename_i e; subst e; simp only [List.mem_cons]
        constructor
        · exact .inl
        · rintro (h | h)
          · exact h
          · exact .inl h
      · simp only [List.mem_cons]
        constructor
        · rintro (h | h)
          · exact .inr h
          · exact .inl h
        · rintro (h | h)
          · exact .inr h
          · exact .inl h
theorem sorted_ins {α : Type} [DecidableEq α] {lt : α → α → Bool} (h : STO lt) (x : α) : ∀ ys : List α, ys.Pairwise (fun a b => lt a b = true) → (ins lt ys x).Pairwise (fun a b => lt a b = true)
  | [], _ => by simp [ins]
  | y :: r, hy => by
    rw [List.pairwise_cons] at hy
    unfold ins
    split
    · rename_i e
      refine List.pairwise_cons.2 ⟨fun b hb => ?_, sorted_ins h x r hy.2⟩
      rcases (mem_ins b x r).1 hb with hb | rfl
      · exact hy.1 b hb
      · exact e
    · split
      · exact List.pairwise_cons.2 hy
      · rename_i e ne
        have hxy : lt x y = true := by
          cases e2 : lt x y with
          | true => rfl
          | false => exact absurd (h.total _ _ (by simpa using e) e2) ne
        refine List.pairwise_cons.2 ⟨fun b hb => ?_, List.pairwise_cons.2 hy⟩
        rcases List.mem_cons.1 hb with rfl | hb
        · exact hxy
        · exact h.trans _ _ _ hxy (hy.1 b hb)
theorem fold_ins {α : Type} [DecidableEq α] {lt : α → α → Bool} (h : STO lt) : ∀ (xs acc : List α), acc.Pairwise (fun a b => lt a b = true) → (xs.foldl (ins lt) acc).Pairwise (fun a b => lt a b = true) ∧ ∀ a, a ∈ xs.foldl (ins lt) acc ↔ a ∈ acc ∨ a ∈ xs
  | [], acc, ha => ⟨ha, fun a => by simp⟩
  | x :: xs, acc, ha => by
    have ih := fold_ins h xs (ins lt acc x) (sorted_ins h x acc ha)
    refine ⟨ih.1, fun a => ?_⟩
    rw [List.foldl_cons, ih.2, mem_ins, List.mem_cons, or_assoc]
end Go.Proofs.YtpnobpnknlpjnaaGreatDoor.K
