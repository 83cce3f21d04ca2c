import Derived.Test.YtkkfoonaobehaaaDoorCom
namespace Go.Proofs.YtkkfoonaobehaaaDoor.ComP
open Go.Proofs.YtkkfoonaobehaaaDoor.Bits Go.Proofs.YtkkfoonaobehaaaDoor.Tr Go.Proofs.YtkkfoonaobehaaaDoor.Com
set_option linter.unusedVariables false
theorem okRow_all : ∀ (xs : List Int) (p : Option Int), okRow p xs = true → (∀ x ∈ xs, 0 ≤ x ∧ x < 64) ∧ xs.Pairwise (· < ·) ∧ ∀ q, p = some q → ∀ x ∈ xs, q < x
  | [], p, _ => ⟨by simp, List.Pairwise.nil, by simp⟩
  | x :: xs, p, h => by
    rw [okRow, Bool.and_eq_true] at h
    obtain ⟨h1, h2⟩ := h
    obtain ⟨a1, a2, a3⟩ := okRow_all xs (some x) h2
    simp only [okAt, Bool.and_eq_true, decide_eq_true_eq] at h1
    refine ⟨?_, List.pairwise_cons.2 ⟨fun y hy => a3 x rfl y hy, a2⟩, ?_⟩
    · intro y hy
      rcases List.mem_cons.1 hy with rfl | hy
      · exact h1.1
      · exact a1 y hy
    · rintro q rfl y hy
      have hq : q < x := by simpa using h1.2
      rcases List.mem_cons.1 hy with rfl | hy
      · exact hq
      · exact Int.lt_trans hq (a3 x rfl y hy)
theorem bitsOf_bit (i : Nat) : ∀ (xs : List Int) (a : Nat), (bitsOf a xs).testBit i = true ↔ a.testBit i = true ∨ ∃ x ∈ xs, x.toNat = i
  | [], a => by simp [bitsOf]
  | x :: xs, a => by
    have ih := bitsOf_bit i xs (a ||| 2 ^ x.toNat)
    have e : bitsOf a (x :: xs) = bitsOf (a ||| 2 ^ x.toNat) xs := rfl
    rw [e, ih, Nat.testBit_or, Nat.testBit_two_pow]
    simp only [Bool.or_eq_true, decide_eq_true_eq, List.mem_cons, exists_eq_or_imp]
    constructor
    · rintro ((h | h) | h)
      · exact .inl h
      · exact .inr (.inl h)
      · exact .inr (.inr h)
    · rintro (h | h | h)
      · exact .inl (.inl h)
      · exact .inl (.inr h)
      · exact .inr h
theorem cnt_one (x : Int) : ∀ (ys : List Int), ys.Pairwise (· < ·) → cnt x ys = if x ∈ ys then 1 else 0
  | [], _ => by simp [cnt]
  | y :: ys, h => by
    obtain ⟨h1, h2⟩ := List.pairwise_cons.1 h
    have ih := cnt_one x ys h2
    have e : cnt x (y :: ys) = cnt x ys + if (x == y) = true then 1 else 0 := by simp [cnt, List.countP_cons]
    rw [e, ih]
    by_cases hxy : x = y
    · subst hxy
      have : x ∉ ys := fun hm => absurd (h1 x hm) (Int.lt_irrefl x)
      simp [this]
    · simp [hxy]
theorem comm_filter (ys : List Int) (hy : ys.Pairwise (· < ·)) : ∀ xs : List Int, comm xs ys = (xs.filter fun x => decide (x ∈ ys)).length
  | [] => by simp [comm]
  | x :: xs => by
    have ih := comm_filter ys hy xs
    have e : comm (x :: xs) ys = cnt x ys + comm xs ys := by simp [comm]
    rw [e, ih, cnt_one x ys hy, List.filter_cons]
    by_cases hm : x ∈ ys <;> simp [hm]
    omega
theorem comm_bits (xs ys : List Int) (hx : okRow none xs = true) (hy : okRow none ys = true) : comm xs ys = pc (bitsOf 0 xs &&& bitsOf 0 ys) := by
  obtain ⟨x1, x2, _⟩ := okRow_all xs none hx
  obtain ⟨y1, y2, _⟩ := okRow_all ys none hy
  rw [comm_filter ys y2 xs, pc]
  have key : mem (bitsOf 0 xs &&& bitsOf 0 ys) = (xs.filter fun x => decide (x ∈ ys)).map Int.toNat := by
    refine sorted_ext _ _ (mem_sorted _) ?_ ?_
    · rw [List.pairwise_map]
      refine List.Pairwise.imp_of_mem ?_ (x2.filter _)
      intro a b ha hb hab
      have h1 := x1 a (List.mem_filter.1 ha).1
      have h2 := x1 b (List.mem_filter.1 hb).1
      omega
    · intro i
      rw [mem_mem, Nat.testBit_and, Bool.and_eq_true, bitsOf_bit, bitsOf_bit]
      simp only [Nat.zero_testBit, Bool.false_eq_true, false_or, List.mem_map, List.mem_filter, decide_eq_true_eq]
      constructor
      · rintro ⟨hi, ⟨x, hx1, hx2⟩, ⟨y, hy1, hy2⟩⟩
        have h1 := x1 x hx1
        have h2 := y1 y hy1
        obtain rfl : x = y := by omega
        exact ⟨x, ⟨hx1, hy1⟩, hx2⟩
      · rintro ⟨x, ⟨hx1, hx3⟩, hx2⟩
        have h1 := x1 x hx1
        exact ⟨by omega, ⟨x, hx1, hx2⟩, ⟨x, hx3, hx2⟩⟩
  rw [key, List.length_map]
end Go.Proofs.YtkkfoonaobehaaaDoor.ComP
