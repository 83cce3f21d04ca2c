namespace Go.Proofs.YtkkfoonaobehaaaDoor.ChA
set_option linter.unusedVariables false
/-- Among the neighbors of each vertex, those with a smaller number are pairwise adjacent. -/
def Perf (V : Nat → Prop) (A : Nat → Nat → Prop) (p : Nat → Nat) : Prop := ∀ u a b, V u → V a → V b → A u a → A u b → p a < p u → p b < p u → a ≠ b → A a b
def Inj (V : Nat → Prop) (p : Nat → Nat) : Prop := ∀ a b, V a → V b → p a = p b → a = b
/-- The property of a search by the greatest number of neighbors. -/
def PropP (V : Nat → Prop) (A : Nat → Nat → Prop) (p : Nat → Nat) : Prop := ∀ u v w, V u → V v → V w → p w < p v → p v < p u → A u w → ¬ A v w → ∃ x, V x ∧ p x < p v ∧ A v x ∧ ¬ A u x
theorem argmax (F : Nat → Nat) : ∀ m : Nat, ∃ i, i ≤ m ∧ ∀ k, k ≤ m → F k ≤ F i
  | 0 => ⟨0, Nat.le_refl _, fun k hk => by have : k = 0 := by omega
                                           rw [this]; exact Nat.le_refl _⟩
  | m + 1 => by
    obtain ⟨i, hi, h⟩ := argmax F m
    by_cases q : F i ≤ F (m + 1)
    · refine ⟨m + 1, Nat.le_refl _, fun k hk => ?_⟩
      by_cases e : k = m + 1
      · rw [e]; exact Nat.le_refl _
      · have := h k (by omega); omega
    · refine ⟨i, by omega, fun k hk => ?_⟩
      by_cases e : k = m + 1
      · rw [e]; omega
      · exact h k (by omega)
theorem least (P : Nat → Prop) : ∀ k, P k → ∃ j, j ≤ k ∧ P j ∧ ∀ i, i < j → ¬ P i := by
  intro k
  induction k using Nat.strongRecOn with
  | _ k ih =>
    intro hk
    by_cases q : ∃ i, i < k ∧ P i
    · obtain ⟨i, hi, hp⟩ := q
      obtain ⟨j, h1, h2, h3⟩ := ih i hi hp
      exact ⟨j, by omega, h2, h3⟩
    · exact ⟨k, Nat.le_refl _, hk, fun i hi hp => q ⟨i, hi, hp⟩⟩
/-- A path without chords, whose inner vertices have greater numbers than its ends. -/
structure Path (V : Nat → Prop) (A : Nat → Nat → Prop) (p : Nat → Nat) (k : Nat) (g : Nat → Nat) : Prop where
  two : 2 ≤ k
  inV : ∀ i, i ≤ k → V (g i)
  adj : ∀ i j, i < j → j ≤ k → (A (g i) (g j) ↔ j = i + 1)
  dis : ∀ i j, i < j → j ≤ k → g i ≠ g j
  inn : ∀ i, 0 < i → i < k → p (g 0) < p (g i) ∧ p (g k) < p (g i)
section
variable {V : Nat → Prop} {A : Nat → Nat → Prop}
theorem Path.rev (sy : ∀ a b, A a b → A b a) {p : Nat → Nat} {k : Nat} {g : Nat → Nat} (h : Path V A p k g) : Path V A p k (fun i => g (k - i)) := by
  refine ⟨h.two, fun i hi => h.inV _ (by omega), fun i j hij hj => ?_, fun i j hij hj => ?_, fun i h0 hi => ?_⟩
  · have := h.adj (k - j) (k - i) (by omega) (by omega)
    constructor
    · intro q; have := this.1 (sy _ _ q); omega
    · intro q; exact sy _ _ (this.2 (by omega))
  · exact fun e => h.dis (k - j) (k - i) (by omega) (by omega) e.symm
  · have := h.inn (k - i) (by omega) (by omega)
    simp only [Nat.sub_zero, Nat.sub_self]
    exact ⟨this.2, this.1⟩
/-- A graph with a perfect order has no cycle without chords of four or more vertices. -/
theorem no_cycle (sy : ∀ a b, A a b → A b a) {q : Nat → Nat} (hq : Inj V q) (hp : Perf V A q) (j : Nat) (g : Nat → Nat) (x : Nat) (hj : 2 ≤ j) (hV : ∀ i, i ≤ j → V (g i)) (hx : V x)
    (adj : ∀ i k, i < k → k ≤ j → (A (g i) (g k) ↔ k = i + 1)) (dis : ∀ i k, i < k → k ≤ j → g i ≠ g k) (hne : ∀ i, i ≤ j → g i ≠ x) (h0 : A x (g 0)) (hl : A x (g j)) (hno : ∀ i, 0 < i → i < j → ¬ A x (g i)) : False := by
  let cyc : Nat → Nat := fun i => if i ≤ j then g i else x
  have c1 : ∀ i, i ≤ j → cyc i = g i := fun i hi => by simp [cyc, hi]
  have c2 : cyc (j + 1) = x := if_neg (by omega)
  obtain ⟨i, hi, hmax⟩ := argmax (fun i => q (cyc i)) (j + 1)
  have hmax : ∀ k, k ≤ j + 1 → q (cyc k) ≤ q (cyc i) := hmax
  have lt_of : ∀ a b, V a → V b → a ≠ b → q a ≤ q b → q a < q b := fun a b ha hb hab h => by
    have : q a ≠ q b := fun e => hab (hq a b ha hb e)
    omega
  by_cases e1 : i = j + 1
  · subst e1
    have m0 := hmax 0 (by omega)
    have mj := hmax j (by omega)
    rw [c1 0 (by omega), c2] at m0
    rw [c1 j (by omega), c2] at mj
    have := hp x (g 0) (g j) hx (hV 0 (by omega)) (hV j (by omega)) h0 hl (lt_of _ _ (hV 0 (by omega)) hx (hne 0 (by omega)) m0) (lt_of _ _ (hV j (by omega)) hx (hne j (by omega)) mj) (dis 0 j (by omega) (by omega))
    have := (adj 0 j (by omega) (by omega)).1 this
    omega
  · have hij : i ≤ j := by omega
    by_cases e0 : i = 0
    · subst e0
      have m1 := hmax 1 (by omega)
      have mx := hmax (j + 1) (by omega)
      rw [c1 0 (by omega), c1 1 (by omega)] at m1
      rw [c1 0 (by omega), c2] at mx
      have := hp (g 0) (g 1) x (hV 0 (by omega)) (hV 1 (by omega)) hx ((adj 0 1 (by omega) (by omega)).2 rfl) (sy _ _ h0) (lt_of _ _ (hV 1 (by omega)) (hV 0 (by omega)) (fun e => dis 0 1 (by omega) (by omega) e.symm) m1) (lt_of _ _ hx (hV 0 (by omega)) (fun e => hne 0 (by omega) e.symm) mx) (hne 1 (by omega))
      exact hno 1 (by omega) (by omega) (sy _ _ this)
    · have m1 := hmax (i - 1) (by omega)
      have m2 := hmax (i + 1) (by omega)
      rw [c1 i hij, c1 (i - 1) (by omega)] at m1
      rw [c1 i hij] at m2
      have a1 : A (g i) (g (i - 1)) := sy _ _ ((adj (i - 1) i (by omega) hij).2 (by omega))
      have l1 := lt_of _ _ (hV (i - 1) (by omega)) (hV i hij) (dis (i - 1) i (by omega) hij) m1
      by_cases el : i = j
      · subst el
        rw [c2] at m2
        have := hp (g i) (g (i - 1)) x (hV i hij) (hV (i - 1) (by omega)) hx a1 (sy _ _ hl) l1 (lt_of _ _ hx (hV i hij) (fun e => hne i hij e.symm) m2) (hne (i - 1) (by omega))
        exact hno (i - 1) (by omega) (by omega) (sy _ _ this)
      · rw [c1 (i + 1) (by omega)] at m2
        have := hp (g i) (g (i - 1)) (g (i + 1)) (hV i hij) (hV (i - 1) (by omega)) (hV (i + 1) (by omega)) a1 ((adj i (i + 1) (by omega) (by omega)).2 rfl) l1 (lt_of _ _ (hV (i + 1) (by omega)) (hV i hij) (fun e => dis i (i + 1) (by omega) (by omega) e.symm) m2) (dis (i - 1) (i + 1) (by omega) (by omega))
        have := (adj (i - 1) (i + 1) (by omega) (by omega)).1 this
        omega
theorem no_path (sy : ∀ a b, A a b → A b a) (ir : ∀ a, ¬ A a a) {q : Nat → Nat} (hq : Inj V q) (hp : Perf V A q) {p : Nat → Nat} (hi : Inj V p) (hP : PropP V A p) :
    ∀ (M k : Nat) (g : Nat → Nat), p (g 0) ≤ M → p (g k) ≤ M → ¬ Path V A p k g := by
  intro M
  induction M using Nat.strongRecOn with
  | _ M ih =>
    have half : ∀ (k : Nat) (g : Nat → Nat), p (g 0) < p (g k) → p (g k) ≤ M → ¬ Path V A p k g := by
      intro k g hlt hM h
      have h2 := h.two
      have h1 := h.inn 1 (by omega) (by omega)
      have hn : ¬ A (g k) (g 0) := fun e => by have := (h.adj 0 k (by omega) (by omega)).1 (sy _ _ e); omega
      obtain ⟨x, hx, hxk, hxa, hxn⟩ := hP (g 1) (g k) (g 0) (h.inV 1 (by omega)) (h.inV k (by omega)) (h.inV 0 (by omega)) hlt h1.2 (sy _ _ ((h.adj 0 1 (by omega) (by omega)).2 rfl)) hn
      obtain ⟨j, hjk, ⟨hj0, hja⟩, hmin⟩ := least (fun j => 0 < j ∧ A x (g j)) k ⟨by omega, sy _ _ hxa⟩
      have hj2 : 2 ≤ j := by
        have : j ≠ 1 := fun e => by subst e; exact hxn (sy _ _ hja)
        omega
      have hne : ∀ i, i ≤ j → g i ≠ x := by
        intro i hij e
        by_cases e0 : i = 0
        · subst e0; rw [← e] at hxa; exact hn hxa
        · by_cases ek : i = k
          · subst ek; rw [← e] at hxa; exact ir _ hxa
          · have := (h.inn i (by omega) (by omega)).2
            rw [e] at this
            omega
      have hno : ∀ i, 0 < i → i < j → ¬ A x (g i) := fun i h0 hij e => hmin i hij ⟨h0, e⟩
      by_cases hx0 : A x (g 0)
      · exact no_cycle sy hq hp j g x hj2 (fun i hij => h.inV i (by omega)) hx (fun a b hab hb => h.adj a b hab (by omega)) (fun a b hab hb => h.dis a b hab (by omega)) hne hx0 hja hno
      · let r : Nat → Nat := fun i => if i ≤ j then g i else x
        have r1 : ∀ i, i ≤ j → r i = g i := fun i hi => by simp [r, hi]
        have r2 : r (j + 1) = x := if_neg (by omega)
        have hpx : max (p (g 0)) (p x) < M := by omega
        refine ih (max (p (g 0)) (p x)) hpx (j + 1) r (by rw [r1 0 (by omega)]; omega) (by rw [r2]; omega) ⟨by omega, fun i hi' => ?_, fun a b hab hb => ?_, fun a b hab hb => ?_, fun i h0 hij => ?_⟩
        · by_cases e : i ≤ j
          · rw [r1 i e]; exact h.inV i (by omega)
          · rw [show i = j + 1 by omega, r2]; exact hx
        · by_cases e : b ≤ j
          · rw [r1 a (by omega), r1 b e]; exact h.adj a b hab (by omega)
          · obtain rfl : b = j + 1 := by omega
            rw [r1 a (by omega), r2]
            constructor
            · intro q1
              by_cases ea : a = j
              · omega
              · by_cases e0 : a = 0
                · subst e0; exact absurd (sy _ _ q1) hx0
                · exact absurd (sy _ _ q1) (hno a (by omega) (by omega))
            · intro e1
              obtain rfl : a = j := by omega
              exact sy _ _ hja
        · by_cases e : b ≤ j
          · rw [r1 a (by omega), r1 b e]; exact h.dis a b hab (by omega)
          · obtain rfl : b = j + 1 := by omega
            rw [r1 a (by omega), r2]
            exact hne a (by omega)
        · rw [r1 0 (by omega), r1 i (by omega), r2]
          by_cases ek : i = k
          · subst ek; exact ⟨hlt, hxk⟩
          · have := h.inn i h0 (by omega)
            omega
    intro k g h0 hk h
    have hne : p (g 0) ≠ p (g k) := fun e => h.dis 0 k (by have := h.two; omega) (Nat.le_refl _) (hi _ _ (h.inV 0 (by omega)) (h.inV k (by omega)) e)
    by_cases hlt : p (g 0) < p (g k)
    · exact half k g hlt hk h
    · refine half k (fun i => g (k - i)) ?_ ?_ (h.rev sy)
      · simp only [Nat.sub_zero, Nat.sub_self]; omega
      · simp only [Nat.sub_self]; exact h0
/-- In a graph that has some perfect order, each order with the property is perfect. -/
theorem mcs_perf (sy : ∀ a b, A a b → A b a) (ir : ∀ a, ¬ A a a) {q : Nat → Nat} (hq : Inj V q) (hp : Perf V A q) {p : Nat → Nat} (hi : Inj V p) (hP : PropP V A p) : Perf V A p := by
  intro u a b hu ha hb hua hub hpa hpb hab
  apply Classical.byContradiction
  intro hn
  let g : Nat → Nat := fun i => if i = 0 then a else if i = 1 then u else b
  have hau : a ≠ u := fun e => by rw [e] at hpa; omega
  have hbu : b ≠ u := fun e => by rw [e] at hpb; omega
  refine no_path sy ir hq hp hi hP (max (p a) (p b)) 2 g (by simp [g]; omega) (by simp [g]; omega) ⟨Nat.le_refl _, fun i h => ?_, fun i j hij hj => ?_, fun i j hij hj => ?_, fun i h0 h2 => ?_⟩
  · by_cases e0 : i = 0
    · simp [g, e0, ha]
    · by_cases e1 : i = 1
      · simp [g, e1, hu]
      · simp [g, e0, e1, hb]
  · have : (i = 0 ∧ j = 1) ∨ (i = 0 ∧ j = 2) ∨ (i = 1 ∧ j = 2) := by omega
    rcases this with ⟨rfl, rfl⟩ | ⟨rfl, rfl⟩ | ⟨rfl, rfl⟩
    · simp [g, sy _ _ hua]
    · simp [g, hn]
    · simp [g, hub]
  · have : (i = 0 ∧ j = 1) ∨ (i = 0 ∧ j = 2) ∨ (i = 1 ∧ j = 2) := by omega
    rcases this with ⟨rfl, rfl⟩ | ⟨rfl, rfl⟩ | ⟨rfl, rfl⟩
    · simp [g, hau]
    · simp [g, hab]
    · simp [g]; exact fun e => hbu e.symm
  · obtain rfl : i = 1 := by omega
    simp [g, hpa, hpb]
end
end Go.Proofs.YtkkfoonaobehaaaDoor.ChA
