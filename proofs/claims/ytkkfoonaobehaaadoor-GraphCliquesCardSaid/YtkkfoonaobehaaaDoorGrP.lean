import Derived.Test.YtkkfoonaobehaaaDoorVal
import Derived.Test.YtkkfoonaobehaaaDoorExt
namespace Go.Proofs.YtkkfoonaobehaaaDoor.GrP
open Go.Proofs.YtkkfoonaobehaaaDoor.Bits Go.Proofs.YtkkfoonaobehaaaDoor.Low Go.Proofs.YtkkfoonaobehaaaDoor.Sets Go.Proofs.YtkkfoonaobehaaaDoor.Cmp Go.Proofs.YtkkfoonaobehaaaDoor.Read Go.Proofs.YtkkfoonaobehaaaDoor.Val
set_option linter.unusedVariables false
set_option linter.unusedSimpArgs false
/-- f is the adjacency of a graph with n vertices. -/
structure Gr (n : Nat) (f : Nat → Nat) : Prop where
  lt : ∀ i j, (f i).testBit j = true → i < n ∧ j < n
  ne : ∀ i j, (f i).testBit j = true → i ≠ j
  sy : ∀ i j, (f i).testBit j = true → (f j).testBit i = true
def ltE (p q : Int × Int) : Prop := p.1 < q.1 ∨ p.1 = q.1 ∧ p.2 < q.2
theorem ltE_iff (p q : Int × Int) : decide (lexCmp [p.1, p.2] [q.1, q.2] < 0) = true ↔ ltE p q := by
  rw [lex_two]
  simp [ltE]
theorem okList_iff (n : Int) : ∀ (l : List (Int × Int)) (p : Option (Int × Int)), okList n p l = true ↔ (∀ e ∈ l, 0 ≤ e.1 ∧ e.1 < e.2 ∧ e.2 < n) ∧ l.Pairwise ltE ∧ ∀ q, p = some q → ∀ e ∈ l, ltE q e
  | [], p => by simp [okList]
  | e :: l, p => by
    rw [okList, Bool.and_eq_true, okList_iff n l (some e)]
    have hE : okE n p e = true ↔ (0 ≤ e.1 ∧ e.1 < e.2 ∧ e.2 < n) ∧ ∀ q, p = some q → ltE q e := by
      cases p with
      | none => simp [okE, and_assoc]
      | some q =>
        have := ltE_iff q e
        simp only [okE, Bool.and_eq_true, this, decide_eq_true_eq, Option.some.injEq, forall_eq', and_assoc]
    rw [hE]
    simp only [List.mem_cons, forall_eq_or_imp, List.pairwise_cons, Option.some.injEq, forall_eq']
    constructor
    · rintro ⟨⟨h1, h2⟩, h3, h4, h5⟩
      refine ⟨⟨h1, h3⟩, ⟨h5, h4⟩, fun q hq => ⟨h2 q hq, fun x hx => ?_⟩⟩
      have a := h2 q hq
      have b := h5 x hx
      unfold ltE at *
      omega
    · rintro ⟨⟨h1, h3⟩, ⟨h5, h4⟩, h6⟩
      exact ⟨⟨h1, fun q hq => (h6 q hq).1⟩, h3, h4, h5⟩
theorem okG_iff (n : Int) (E : List (Int × Int)) : okG n E = true ↔ 0 ≤ n ∧ n ≤ 64 ∧ (∀ e ∈ E, 0 ≤ e.1 ∧ e.1 < e.2 ∧ e.2 < n) ∧ E.Pairwise ltE := by
  rw [okG, Bool.and_eq_true, Bool.and_eq_true, okList_iff]
  simp [and_assoc]
theorem memI_mem {u : Nat} {x : Int} : x ∈ memI u ↔ ∃ j : Nat, x = j ∧ j < 64 ∧ u.testBit j = true := by
  simp only [memI, List.mem_map, mem_mem]
  constructor
  · rintro ⟨j, h, rfl⟩; exact ⟨j, rfl, h⟩
  · rintro ⟨j, rfl, h⟩; exact ⟨j, h, rfl⟩
theorem memI_sorted (u : Nat) : (memI u).Pairwise (· < ·) := by
  rw [memI, List.pairwise_map]
  exact (mem_sorted u).imp (fun h => by simpa using h)
theorem rowE_mem {f : Nat → Nat} {i : Nat} {e : Int × Int} : e ∈ rowE f i ↔ ∃ j : Nat, e = ((i : Int), (j : Int)) ∧ i < j ∧ j < 64 ∧ (f i).testBit j = true := by
  simp only [rowE, List.mem_map, List.mem_filter, memI_mem, decide_eq_true_eq]
  constructor
  · rintro ⟨a, ⟨⟨j, rfl, h1, h2⟩, h3⟩, rfl⟩; exact ⟨j, rfl, by omega, h1, h2⟩
  · rintro ⟨j, rfl, h1, h2, h3⟩; exact ⟨j, ⟨⟨j, rfl, h2, h3⟩, by omega⟩, rfl⟩
theorem edgesOf_mem {f : Nat → Nat} {e : Int × Int} : ∀ {n : Nat}, e ∈ edgesOf f n ↔ ∃ i j : Nat, e = ((i : Int), (j : Int)) ∧ i < n ∧ i < j ∧ j < 64 ∧ (f i).testBit j = true
  | 0 => by simp [edgesOf]
  | n + 1 => by
    rw [edgesOf, List.mem_append, edgesOf_mem, rowE_mem]
    constructor
    · rintro (⟨i, j, h, h1, h2⟩ | ⟨j, h, h1⟩)
      · exact ⟨i, j, h, by omega, h2⟩
      · exact ⟨n, j, h, by omega, h1⟩
    · rintro ⟨i, j, h, h1, h2⟩
      by_cases q : i = n
      · subst q; exact .inr ⟨j, h, h2⟩
      · exact .inl ⟨i, j, h, by omega, h2⟩
theorem edgesOf_sorted (f : Nat → Nat) : ∀ n, (edgesOf f n).Pairwise ltE
  | 0 => by simp [edgesOf]
  | n + 1 => by
    rw [edgesOf, List.pairwise_append]
    refine ⟨edgesOf_sorted f n, ?_, ?_⟩
    · rw [rowE, List.pairwise_map]
      exact (List.Pairwise.filter _ (memI_sorted _)).imp (fun h => .inr ⟨rfl, h⟩)
    · intro a ha b hb
      obtain ⟨i, j, rfl, h1, _⟩ := edgesOf_mem.1 ha
      obtain ⟨j', rfl, _⟩ := rowE_mem.1 hb
      exact .inl (by simp; omega)
theorem okG_edges (f : Nat → Nat) (n : Nat) (hn : n ≤ 64) (h : ∀ i j, (f i).testBit j = true → j < n) : okG n (edgesOf f n) = true := by
  rw [okG_iff]
  refine ⟨by omega, by omega, ?_, edgesOf_sorted f n⟩
  intro e he
  obtain ⟨i, j, rfl, h1, h2, h3, h4⟩ := edgesOf_mem.1 he
  have := h i j h4
  simp
  omega
theorem bit_pow (k j : Nat) : (2 ^ k).testBit j = true ↔ j = k := by rw [Nat.testBit_two_pow]; simp; exact eq_comm
theorem join_bit (f : Nat → Nat) (a b i j : Nat) : (join f a b i).testBit j = true ↔ (f i).testBit j = true ∨ (i = a ∧ j = b) ∨ (i = b ∧ j = a) := by
  unfold join put
  by_cases h1 : i = b
  · subst h1
    rw [if_pos rfl, Nat.testBit_or, Bool.or_eq_true, bit_pow]
    by_cases h2 : i = a
    · subst h2
      rw [if_pos rfl, Nat.testBit_or, Bool.or_eq_true, bit_pow]
      simp
    · rw [if_neg h2]
      simp [h2]
  · rw [if_neg h1]
    by_cases h2 : i = a
    · subst h2
      rw [if_pos rfl, Nat.testBit_or, Bool.or_eq_true, bit_pow]
      simp [h1]
    · rw [if_neg h2]
      simp [h1, h2]
theorem joins_bit : ∀ (E : List (Int × Int)) (f : Nat → Nat) (i j : Nat), (∀ e ∈ E, 0 ≤ e.1 ∧ 0 ≤ e.2) → ((joins f E i).testBit j = true ↔ (f i).testBit j = true ∨ ((i : Int), (j : Int)) ∈ E ∨ ((j : Int), (i : Int)) ∈ E)
  | [], f, i, j, _ => by simp [joins]
  | e :: E, f, i, j, h => by
    have e1 : joins f (e :: E) = joins (join f e.1.toNat e.2.toNat) E := rfl
    rw [e1, joins_bit E _ i j (fun x hx => h x (List.mem_cons_of_mem _ hx)), join_bit]
    have he := h e (by simp)
    obtain ⟨a, b⟩ := e
    simp only [List.mem_cons, Prod.mk.injEq]
    simp only at he
    have p1 : (i = a.toNat ∧ j = b.toNat) ↔ ((i : Int) = a ∧ (j : Int) = b) := by omega
    have p2 : (i = b.toNat ∧ j = a.toNat) ↔ ((j : Int) = a ∧ (i : Int) = b) := by omega
    rw [p1, p2]
    constructor
    · rintro ((h | h | h) | h | h)
      · exact .inl h
      · exact .inr (.inl (.inl h))
      · exact .inr (.inr (.inl h))
      · exact .inr (.inl (.inr h))
      · exact .inr (.inr (.inr h))
    · rintro (h | (h | h) | (h | h))
      · exact .inl (.inl h)
      · exact .inl (.inr (.inl h))
      · exact .inr (.inl h)
      · exact .inl (.inr (.inr h))
      · exact .inr (.inr h)
theorem f0_bit (i j : Nat) : (f0 i).testBit j = false := by simp [f0]
theorem okG_bit {n : Int} {E : List (Int × Int)} (h : okG n E = true) (i j : Nat) : (joins f0 E i).testBit j = true ↔ ((i : Int), (j : Int)) ∈ E ∨ ((j : Int), (i : Int)) ∈ E := by
  obtain ⟨_, _, hr, _⟩ := (okG_iff n E).1 h
  rw [joins_bit E f0 i j (fun e he => by have := hr e he; omega), f0_bit]
  simp
theorem okG_gr {n : Nat} {E : List (Int × Int)} (h : okG n E = true) : Gr n (joins f0 E) := by
  obtain ⟨_, _, hr, _⟩ := (okG_iff n E).1 h
  refine ⟨fun i j hb => ?_, fun i j hb => ?_, fun i j hb => ?_⟩
  · rcases (okG_bit h i j).1 hb with q | q <;> (have := hr _ q; simp at this; omega)
  · rcases (okG_bit h i j).1 hb with q | q <;> (have := hr _ q; simp at this; omega)
  · exact (okG_bit h j i).2 ((okG_bit h i j).1 hb).symm
theorem fun_ext {f g : Nat → Nat} (h : ∀ i j, (f i).testBit j = true ↔ (g i).testBit j = true) : f = g := by
  funext i
  apply Nat.eq_of_testBit_eq
  intro j
  have := h i j
  cases e1 : (f i).testBit j <;> cases e2 : (g i).testBit j <;> simp_all
theorem joins_edges {n : Nat} {f : Nat → Nat} (hn : n ≤ 64) (h : Gr n f) : joins f0 (edgesOf f n) = f := by
  apply fun_ext
  intro i j
  rw [okG_bit (okG_edges f n hn (fun i j hb => (h.lt i j hb).2))]
  constructor
  · rintro (q | q) <;> obtain ⟨a, b, he, _, _, _, hb⟩ := edgesOf_mem.1 q <;> simp only [Prod.mk.injEq, Int.natCast_inj] at he <;> obtain ⟨rfl, rfl⟩ := he
    · exact hb
    · exact h.sy _ _ hb
  · intro hb
    have hl := h.lt i j hb
    have hne := h.ne i j hb
    by_cases q : i < j
    · exact .inl (edgesOf_mem.2 ⟨i, j, rfl, by omega, q, by omega, hb⟩)
    · exact .inr (edgesOf_mem.2 ⟨j, i, rfl, by omega, by omega, by omega, h.sy _ _ hb⟩)
end Go.Proofs.YtkkfoonaobehaaaDoor.GrP
