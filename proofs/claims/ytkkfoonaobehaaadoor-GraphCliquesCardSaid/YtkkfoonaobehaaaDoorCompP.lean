import Derived.Test.YtkkfoonaobehaaaDoorGComp
namespace Go.Proofs.YtkkfoonaobehaaaDoor.CompP
open Go.Proofs.YtkkfoonaobehaaaDoor.Bits Go.Proofs.YtkkfoonaobehaaaDoor.Low Go.Proofs.YtkkfoonaobehaaaDoor.Sets Go.Proofs.YtkkfoonaobehaaaDoor.Read Go.Proofs.YtkkfoonaobehaaaDoor.Search Go.Proofs.YtkkfoonaobehaaaDoor.Comp Go.Proofs.YtkkfoonaobehaaaDoor.GComp Go.Proofs.YtkkfoonaobehaaaDoor.GrP
set_option linter.unusedVariables false
set_option linter.unusedSimpArgs false
theorem gr_bd {n : Nat} {f : Nat → Nat} (hn : n ≤ 64) (h : Gr n f) : Bd f := by
  intro i hi
  refine Nat.lt_pow_two_of_testBit (n := 64) _ (fun j hj => ?_)
  apply Classical.byContradiction
  intro q
  have : (f i).testBit j = true := by simpa using q
  have := (h.lt i j this).2
  omega
section
variable {n : Nat} {f : Nat → Nat}
/-- j is reached from i. -/
def R (f : Nat → Nat) (i j : Nat) : Prop := (cl f i).testBit j = true
theorem R_refl (hf : Bd f) {i : Nat} (hi : i < 64) : R f i i := (cl_is hf hi).1.2.1
theorem R_step (hf : Bd f) {i a b : Nat} (hi : i < 64) (h : R f i a) (hb : (f a).testBit b = true) : R f i b := (cl_is hf hi).2 a b h hb
theorem R_ind (hf : Bd f) {i j : Nat} (hi : i < 64) (h : R f i j) (V : Nat → Prop) (h0 : V i) (hs : ∀ a b, V a → (f a).testBit b = true → V b) : V j := (cl_is hf hi).1.2.2 V h0 hs j h
theorem R_trans (hf : Bd f) {i j k : Nat} (hi : i < 64) (hj : j < 64) (h1 : R f i j) (h2 : R f j k) : R f i k :=
  R_ind hf hj h2 (fun x => R f i x) h1 (fun a b ha hb => R_step hf hi ha hb)
theorem R_lt (hn : n ≤ 64) (g : Gr n f) {i j : Nat} (hi : i < n) (h : R f i j) : j < n :=
  R_ind (gr_bd hn g) (by omega) h (fun x => x < n) hi (fun a b _ hb => (g.lt a b hb).2)
theorem R_symm (hn : n ≤ 64) (g : Gr n f) {i j : Nat} (hi : i < n) (h : R f i j) : R f j i := by
  have hb := gr_bd hn g
  have hj := R_lt hn g hi h
  refine (R_ind hb (by omega) h (fun x => x < n ∧ R f x i) ⟨hi, R_refl hb (by omega)⟩ ?_).2
  rintro a b ⟨ha, hr⟩ hab
  have hlt := g.lt a b hab
  exact ⟨hlt.2, R_trans hb (by omega) (by omega) (R_step hb (by omega) (R_refl hb (by omega)) (g.sy a b hab)) hr⟩
/-- The vertices that open a component. -/
noncomputable def reps (f : Nat → Nat) : Nat → List Nat
  | 0 => []
  | k + 1 => if (compTo f k).1.testBit k then reps f k else reps f k ++ [k]
theorem compTo_reps (f : Nat → Nat) : ∀ k, (compTo f k).2 = (reps f k).map fun i => memI (cl f i)
  | 0 => rfl
  | k + 1 => by
    rw [compTo, reps]
    split
    · exact compTo_reps f k
    · rw [compTo_reps f k]; simp
theorem reps_lt (f : Nat → Nat) : ∀ k, ∀ i ∈ reps f k, i < k
  | 0, i, h => by simp [reps] at h
  | k + 1, i, h => by
    rw [reps] at h
    split at h
    · have := reps_lt f k i h; omega
    · rcases List.mem_append.1 h with q | q
      · have := reps_lt f k i q; omega
      · simp at q; omega
theorem seen_bit (f : Nat → Nat) (j : Nat) : ∀ k, ((compTo f k).1.testBit j = true ↔ ∃ i ∈ reps f k, R f i j)
  | 0 => by simp [compTo, reps]
  | k + 1 => by
    rw [compTo, reps]
    split
    · exact seen_bit f j k
    · simp only [Nat.testBit_or, Bool.or_eq_true, seen_bit f j k, List.mem_append, List.mem_singleton, or_and_right, exists_or, exists_eq_left, R]
theorem reps_pw (hn : n ≤ 64) (g : Gr n f) : ∀ k, k ≤ n → (reps f k).Pairwise fun i j => ∀ x, R f i x → ¬ R f j x
  | 0, _ => by simp [reps]
  | k + 1, h => by
    rw [reps]
    split
    · exact reps_pw hn g k (by omega)
    · rename_i hs
      rw [List.pairwise_append]
      refine ⟨reps_pw hn g k (by omega), by simp, ?_⟩
      intro i hi j hj x h1 h2
      obtain rfl : j = k := by simpa using hj
      have hik := reps_lt f j i hi
      have hb := gr_bd hn g
      have hx := R_lt hn g (by omega) h1
      exact hs ((seen_bit f j j).2 ⟨i, hi, R_trans hb (by omega) (by omega) h1 (R_symm hn g (by omega) h2)⟩)
theorem reps_cover (hf : Bd f) (hn : n ≤ 64) : ∀ k, k ≤ n → ∀ x, x < k → ∃ i ∈ reps f k, R f i x
  | 0, _, x, h => by omega
  | k + 1, hk, x, h => by
    rw [reps]
    split
    · rename_i hs
      by_cases q : x = k
      · subst q; exact (seen_bit f x x).1 hs
      · exact reps_cover hf hn k (by omega) x (by omega)
    · by_cases q : x = k
      · subst q; exact ⟨x, by simp, R_refl hf (by omega)⟩
      · obtain ⟨i, hi, hr⟩ := reps_cover hf hn k (by omega) x (by omega)
        exact ⟨i, by simp [hi], hr⟩
end
/-! The labels of the components. -/
theorem tags_mem {C : List (List Int)} {p : Int × Int} : ∀ {i : Nat}, p ∈ tagsTo C i ↔ ∃ a, a < i ∧ p.1 ∈ C.getD a [] ∧ p.2 = (a : Int) + 1
  | 0 => by simp [tagsTo]
  | i + 1 => by
    rw [tagsTo, List.mem_append, tags_mem, List.mem_map]
    constructor
    · rintro (⟨a, h1, h2, h3⟩ | ⟨v, hv, rfl⟩)
      · exact ⟨a, by omega, h2, h3⟩
      · exact ⟨i, by omega, hv, rfl⟩
    · rintro ⟨a, h1, h2, h3⟩
      by_cases q : a = i
      · subst q; exact .inr ⟨p.1, h2, by rw [← h3]⟩
      · exact .inl ⟨a, by omega, h2, h3⟩
theorem setAll_none {n : Nat} {v : Nat} : ∀ {l : List (Int × Int)}, (∀ p ∈ l, p.1.toNat ≠ v) → (setAll n l).getD v 0 = 0 := by
  intro l
  unfold setAll
  have key : ∀ (l : List (Int × Int)) (r : List Int), (∀ p ∈ l, p.1.toNat ≠ v) → (l.foldl (fun r p => r.set p.1.toNat p.2) r).getD v 0 = r.getD v 0 := by
    intro l
    induction l with
    | nil => intro r _; rfl
    | cons p l ih =>
      intro r h
      rw [List.foldl_cons, ih _ (fun q hq => h q (List.mem_cons_of_mem _ hq))]
      have := h p (by simp)
      simp [List.getD_eq_getElem?_getD, List.getElem?_set, this]
  intro h
  rw [key l _ h]
  simp only [List.getD_eq_getElem?_getD, List.getElem?_replicate]
  split <;> rfl
theorem setAll_one {n : Nat} {v : Nat} {x : Int} (hv : v < n) : ∀ {l : List (Int × Int)}, (∀ p ∈ l, p.1.toNat = v → p.2 = x) → (∃ p ∈ l, p.1.toNat = v) → (setAll n l).getD v 0 = x := by
  intro l h1 h2
  unfold setAll
  have key : ∀ (l : List (Int × Int)) (r : List Int), r.length = n → (∀ p ∈ l, p.1.toNat = v → p.2 = x) → ((∃ p ∈ l, p.1.toNat = v) ∨ r.getD v 0 = x) → (l.foldl (fun r p => r.set p.1.toNat p.2) r).getD v 0 = x := by
    intro l
    induction l with
    | nil => intro r _ _ h; simpa using h
    | cons p l ih =>
      intro r hl h1 h2
      rw [List.foldl_cons]
      refine ih _ (by simpa using hl) (fun q hq => h1 q (List.mem_cons_of_mem _ hq)) ?_
      by_cases q : p.1.toNat = v
      · right
        have e := h1 p (by simp) q
        simp [List.getD_eq_getElem?_getD, List.getElem?_set, q, hl, hv, e]
      · rcases h2 with ⟨y, hy, hyv⟩ | h2
        · rcases List.mem_cons.1 hy with rfl | hy
          · exact absurd hyv q
          · exact .inl ⟨y, hy, hyv⟩
        · right
          rw [← h2]
          simp [List.getD_eq_getElem?_getD, List.getElem?_set, q]
  exact key l _ (by simp) h1 (.inl h2)
/-! The labels that the passes leave. -/
theorem relax_at (r : List Int) (a b : Nat) (ha : a < r.length) (hb : b < r.length) (v : Nat) : (relax r ((a : Int), (b : Int))).getD v 0 = if v = a ∨ v = b then min (r.getD a 0) (r.getD b 0) else r.getD v 0 := by
  simp only [relax, Int.toNat_natCast, List.getD_eq_getElem?_getD, List.getElem?_set, List.length_set]
  by_cases q : b = v
  · subst q; simp [hb]
  · by_cases q2 : a = v
    · subst q2
      have : ¬ b = a := q
      simp [this, ha]
    · have h1 : ¬ v = a := fun e => q2 e.symm
      have h2 : ¬ v = b := fun e => q e.symm
      simp [q, q2, h1, h2]
/-- What holds of a row of labels at all times. -/
structure Lab (n : Nat) (f : Nat → Nat) (r : List Int) : Prop where
  len : r.length = n
  lab : ∀ v, v < n → ∃ x : Nat, r.getD v 0 = x ∧ x < n ∧ R f v x
section
variable {n : Nat} {f : Nat → Nat}
theorem lab_relax (hn : n ≤ 64) (g : Gr n f) {r : List Int} (h : Lab n f r) {a b : Nat} (hab : (f a).testBit b = true) : Lab n f (relax r ((a : Int), (b : Int))) := by
  have hb := gr_bd hn g
  have hlt := g.lt a b hab
  refine ⟨by rw [relax_len, h.len], fun v hv => ?_⟩
  rw [relax_at r a b (by rw [h.len]; exact hlt.1) (by rw [h.len]; exact hlt.2)]
  split
  · rename_i q
    obtain ⟨x, hx, hxn, hxr⟩ := h.lab a hlt.1
    obtain ⟨y, hy, hyn, hyr⟩ := h.lab b hlt.2
    have hva : R f v a := by
      rcases q with rfl | rfl
      · exact R_refl hb (by omega)
      · exact R_step hb (by omega) (R_refl hb (by omega)) (g.sy _ _ hab)
    have hvb : R f v b := R_step hb (by omega) hva hab
    rw [hx, hy]
    by_cases hle : (x : Int) ≤ y
    · exact ⟨x, by rw [Int.min_def, if_pos hle], hxn, R_trans hb (by omega) (by omega) hva hxr⟩
    · exact ⟨y, by rw [Int.min_def, if_neg hle], hyn, R_trans hb (by omega) (by omega) hvb hyr⟩
  · exact h.lab v hv
theorem relax_le (r : List Int) (a b : Nat) (ha : a < r.length) (hb : b < r.length) (v : Nat) : (relax r ((a : Int), (b : Int))).getD v 0 ≤ r.getD v 0 := by
  rw [relax_at r a b ha hb]
  split
  · rename_i q
    rcases q with rfl | rfl <;> omega
  · omega
/-- The edges of a list are edges of the graph. -/
def Eds (f : Nat → Nat) (E : List (Int × Int)) : Prop := ∀ e ∈ E, ∃ a b : Nat, e = ((a : Int), (b : Int)) ∧ (f a).testBit b = true
theorem pass_facts (hn : n ≤ 64) (g : Gr n f) : ∀ (E : List (Int × Int)) (r : List Int), Eds f E → Lab n f r → Lab n f (pass E r) ∧ (∀ v, (pass E r).getD v 0 ≤ r.getD v 0)
  | [], r, _, h => ⟨h, fun v => Int.le_refl _⟩
  | e :: E, r, hE, h => by
    obtain ⟨a, b, rfl, hab⟩ := hE e (by simp)
    have hlt := g.lt a b hab
    have h1 := lab_relax hn g h hab
    obtain ⟨h2, h3⟩ := pass_facts hn g E _ (fun x hx => hE x (List.mem_cons_of_mem _ hx)) h1
    have e1 : pass (((a : Int), (b : Int)) :: E) r = pass E (relax r ((a : Int), (b : Int))) := rfl
    rw [e1]
    refine ⟨h2, fun v => ?_⟩
    have := h3 v
    have := relax_le r a b (by rw [h.len]; exact hlt.1) (by rw [h.len]; exact hlt.2) v
    omega
/-- mu is the least vertex of a component. -/
def Least (f : Nat → Nat) (n mu : Nat) : Prop := mu < n ∧ ∀ x, R f mu x → mu ≤ x
theorem lab_ge (hn : n ≤ 64) (g : Gr n f) {r : List Int} (h : Lab n f r) {mu v : Nat} (hm : Least f n mu) (hv : R f mu v) : (mu : Int) ≤ r.getD v 0 := by
  have hb := gr_bd hn g
  have hvn := R_lt hn g hm.1 hv
  obtain ⟨x, hx, hxn, hxr⟩ := h.lab v hvn
  have := hm.2 x (R_trans hb (by have := hm.1; omega) (by omega) hv hxr)
  rw [hx]
  omega
theorem lab_R (hn : n ≤ 64) (g : Gr n f) {r : List Int} (h : Lab n f r) {mu v : Nat} (hv : v < n) (e : r.getD v 0 = mu) : R f mu v := by
  obtain ⟨x, hx, hxn, hxr⟩ := h.lab v hv
  obtain rfl : x = mu := by omega
  exact R_symm hn g hv hxr
theorem pass_next (hn : n ≤ 64) (g : Gr n f) {mu : Nat} (hm : Least f n mu) : ∀ (E : List (Int × Int)) (r : List Int), Eds f E → Lab n f r → ∀ u v : Nat, u < n → r.getD u 0 = mu → (((u : Int), (v : Int)) ∈ E ∨ ((v : Int), (u : Int)) ∈ E) → (pass E r).getD v 0 = mu
  | [], r, _, _, u, v, _, _, h => by simp at h
  | e :: E, r, hE, h, u, v, hu, e0, hin => by
    obtain ⟨a, b, rfl, hab⟩ := hE e (by simp)
    have hb := gr_bd hn g
    have hlt := g.lt a b hab
    have hE2 : Eds f E := fun x hx => hE x (List.mem_cons_of_mem _ hx)
    have h1 := lab_relax hn g h hab
    have e1 : pass (((a : Int), (b : Int)) :: E) r = pass E (relax r ((a : Int), (b : Int))) := rfl
    rw [e1]
    have hRu : R f mu u := lab_R hn g h hu e0
    have keep : (relax r ((a : Int), (b : Int))).getD u 0 = mu := by
      have q1 := relax_le r a b (by rw [h.len]; exact hlt.1) (by rw [h.len]; exact hlt.2) u
      have q2 := lab_ge hn g h1 hm hRu
      omega
    by_cases hh : (a = u ∧ b = v) ∨ (a = v ∧ b = u)
    · have hRv : R f mu v := by
        rcases hh with ⟨rfl, rfl⟩ | ⟨rfl, rfl⟩
        · exact R_step hb (by have := hm.1; omega) hRu hab
        · exact R_step hb (by have := hm.1; omega) hRu (g.sy _ _ hab)
      have hset : (relax r ((a : Int), (b : Int))).getD v 0 = mu := by
        have q2 := lab_ge hn g h1 hm hRv
        rw [relax_at r a b (by rw [h.len]; exact hlt.1) (by rw [h.len]; exact hlt.2)] at q2 ⊢
        rw [if_pos (by omega)] at q2 ⊢
        rcases hh with ⟨rfl, rfl⟩ | ⟨rfl, rfl⟩ <;> omega
      have q1 := (pass_facts hn g E _ hE2 h1).2 v
      have q2 := lab_ge hn g (pass_facts hn g E _ hE2 h1).1 hm hRv
      omega
    · refine pass_next hn g hm E _ hE2 h1 u v hu keep ?_
      simp only [List.mem_cons, Prod.mk.injEq, Int.natCast_inj] at hin
      rcases hin with (q | q) | (q | q)
      · exact absurd (.inl ⟨q.1.symm, q.2.symm⟩) hh
      · exact .inl q
      · exact absurd (.inr ⟨q.1.symm, q.2.symm⟩) hh
      · exact .inr q
theorem lab_id (hn : n ≤ 64) (g : Gr n f) : Lab n f (idRow n) := by
  refine ⟨by simp [idRow], fun v hv => ⟨v, ?_, hv, R_refl (gr_bd hn g) (by omega)⟩⟩
  simp [idRow, List.getD_eq_getElem?_getD, hv]
theorem lab_passes (hn : n ≤ 64) (g : Gr n f) {E : List (Int × Int)} (hE : Eds f E) : ∀ t, Lab n f (passes E (idRow n) t)
  | 0 => lab_id hn g
  | t + 1 => (pass_facts hn g E _ hE (lab_passes hn g hE t)).1
/-- How many labels are mu behind t passes. -/
def got (E : List (Int × Int)) (n mu t : Nat) : Nat := ((List.range n).filter fun v => (passes E (idRow n) t).getD v 0 == mu).length
theorem filter_len_le {p q : Nat → Bool} : ∀ (l : List Nat), (∀ x ∈ l, p x = true → q x = true) → (l.filter p).length ≤ (l.filter q).length ∧ ((∃ x ∈ l, q x = true ∧ p x = false) → (l.filter p).length < (l.filter q).length)
  | [], _ => by simp
  | x :: l, h => by
    obtain ⟨h1, h2⟩ := filter_len_le l (fun y hy => h y (List.mem_cons_of_mem _ hy))
    have h0 := h x (by simp)
    constructor
    · cases e1 : p x <;> cases e2 : q x <;> simp_all <;> omega
    · rintro ⟨y, hy, hq, hp⟩
      rcases List.mem_cons.1 hy with rfl | hy
      · simp [hq, hp]; omega
      · have := h2 ⟨y, hy, hq, hp⟩
        cases e1 : p x <;> cases e2 : q x <;> simp_all <;> omega
theorem got_all (hn : n ≤ 64) (g : Gr n f) {E : List (Int × Int)} (hE : Eds f E) (hA : ∀ a b, (f a).testBit b = true → ((a : Int), (b : Int)) ∈ E ∨ ((b : Int), (a : Int)) ∈ E) {mu : Nat} (hm : Least f n mu) : ∀ v, R f mu v → (passes E (idRow n) n).getD v 0 = mu := by
  have hb := gr_bd hn g
  have hmn := hm.1
  have keep : ∀ t v, v < n → (passes E (idRow n) t).getD v 0 = mu → (passes E (idRow n) (t + 1)).getD v 0 = mu := by
    intro t v hv e
    have q1 := (pass_facts hn g E _ hE (lab_passes hn g hE t)).2 v
    have q2 := lab_ge hn g (lab_passes hn g hE (t + 1)) hm (lab_R hn g (lab_passes hn g hE t) hv e)
    have e2 : passes E (idRow n) (t + 1) = pass E (passes E (idRow n) t) := rfl
    rw [e2] at q2 ⊢
    omega
  have closed : ∀ t, (∀ v, R f mu v → (passes E (idRow n) t).getD v 0 = mu) → ∀ v, R f mu v → (passes E (idRow n) (t + 1)).getD v 0 = mu :=
    fun t h v hv => keep t v (R_lt hn g hmn hv) (h v hv)
  have step : ∀ t, (∀ v, R f mu v → (passes E (idRow n) t).getD v 0 = mu) ∨ got E n mu t < got E n mu (t + 1) := by
    intro t
    by_cases hex : ∃ v, v < n ∧ (passes E (idRow n) (t + 1)).getD v 0 = mu ∧ (passes E (idRow n) t).getD v 0 ≠ mu
    · right
      refine (filter_len_le (List.range n) ?_).2 ?_
      · intro x hx h
        simp only [beq_iff_eq] at h ⊢
        exact keep t x (by simpa using hx) h
      · obtain ⟨v, hv, h1, h2⟩ := hex
        exact ⟨v, by simpa using hv, by simpa using h1, by simpa using h2⟩
    · left
      have hst : (passes E (idRow n) t).getD mu 0 = mu := by
        have h0 : ∀ s, (passes E (idRow n) s).getD mu 0 = mu := by
          intro s
          induction s with
          | zero => simp [passes, idRow, List.getD_eq_getElem?_getD, hmn]
          | succ s ih => exact keep s mu hmn ih
        exact h0 t
      intro v hv
      refine (R_ind hb (by omega) hv (fun x => x < n ∧ (passes E (idRow n) t).getD x 0 = mu) ⟨hmn, hst⟩ ?_).2
      rintro a b ⟨ha, he⟩ hab
      have hlt := g.lt a b hab
      have hnx := pass_next hn g hm E _ hE (lab_passes hn g hE t) a b ha he (hA a b hab)
      refine ⟨hlt.2, ?_⟩
      apply Classical.byContradiction
      intro hne
      exact hex ⟨b, hlt.2, hnx, hne⟩
  have main : ∀ t, (∀ v, R f mu v → (passes E (idRow n) t).getD v 0 = mu) ∨ t + 1 ≤ got E n mu t := by
    intro t
    induction t with
    | zero =>
      right
      have : mu ∈ (List.range n).filter fun v => (passes E (idRow n) 0).getD v 0 == mu := by
        simp [passes, idRow, List.getD_eq_getElem?_getD, hmn]
      have := List.length_pos_of_mem this
      unfold got
      omega
    | succ t ih =>
      rcases ih with h | h
      · exact .inl (closed t h)
      · rcases step t with q | q
        · exact .inl (closed t q)
        · exact .inr (by omega)
  rcases main n with h | h
  · exact h
  · have := List.length_filter_le (fun v => (passes E (idRow n) n).getD v 0 == mu) (List.range n)
    rw [List.length_range] at this
    unfold got at h
    omega
theorem least_ex (hn : n ≤ 64) (g : Gr n f) {i : Nat} (hi : i < n) : ∃ mu, Least f n mu ∧ R f mu i := by
  have hb := gr_bd hn g
  have key : ∀ k, (∃ x, x < k ∧ R f i x) → ∃ x, R f i x ∧ ∀ y, R f i y → x ≤ y := by
    intro k
    induction k with
    | zero => rintro ⟨x, h, _⟩; omega
    | succ k ih =>
      intro h
      by_cases q : ∃ x, x < k ∧ R f i x
      · exact ih q
      · obtain ⟨x, hx, hr⟩ := h
        refine ⟨x, hr, fun y hy => ?_⟩
        apply Classical.byContradiction
        intro hlt
        exact q ⟨y, by omega, hy⟩
  obtain ⟨mu, h1, h2⟩ := key (i + 1) ⟨i, by omega, R_refl hb (by omega)⟩
  have hmn := R_lt hn g hi h1
  exact ⟨mu, ⟨hmn, fun x hx => h2 x (R_trans hb (by omega) (by omega) h1 hx)⟩, R_symm hn g hi h1⟩
theorem passes_iff (hn : n ≤ 64) (g : Gr n f) {E : List (Int × Int)} (hE : Eds f E) (hA : ∀ a b, (f a).testBit b = true → ((a : Int), (b : Int)) ∈ E ∨ ((b : Int), (a : Int)) ∈ E) {i j : Nat} (hi : i < n) (hj : j < n) : (passes E (idRow n) n).getD i 0 = (passes E (idRow n) n).getD j 0 ↔ R f i j := by
  have hb := gr_bd hn g
  obtain ⟨mu, hm, hr⟩ := least_ex hn g hi
  have hgi := got_all hn g hE hA hm i hr
  constructor
  · intro e
    rw [hgi] at e
    exact R_trans hb (by omega) (by have := hm.1; omega) (R_symm hn g hm.1 hr) (lab_R hn g (lab_passes hn g hE n) hj e.symm)
  · intro h
    rw [hgi, got_all hn g hE hA hm j (R_trans hb (by have := hm.1; omega) (by omega) hr h)]
end
theorem getD_map {α β : Type} (g : α → β) (l : List α) (i : Nat) (h : i < l.length) (d : β) : (l.map g).getD i d = g l[i] := by
  simp [List.getD_eq_getElem?_getD, h]
theorem comp_ok (m : Nat) (G : List (Int × Int)) (hm8 : m ≤ 8) (ok : okG m G = true) : CompOK m G (compL m G) := by
  have hm : m ≤ 64 := by omega
  have g := okG_gr ok
  have hb := gr_bd hm g
  have hEd : Eds (joins f0 G) G := by
    intro e he
    have hr := ((okG_iff _ _).1 ok).2.2.1 e he
    obtain ⟨a, ha⟩ := Int.eq_ofNat_of_zero_le (show 0 ≤ e.1 by omega)
    obtain ⟨b, hb'⟩ := Int.eq_ofNat_of_zero_le (show 0 ≤ e.2 by omega)
    have e1 : e = ((a : Int), (b : Int)) := by rw [← ha, ← hb']
    exact ⟨a, b, e1, (okG_bit ok a b).2 (.inl (by rw [← e1]; exact he))⟩
  have hA : ∀ a b, (joins f0 G a).testBit b = true → ((a : Int), (b : Int)) ∈ G ∨ ((b : Int), (a : Int)) ∈ G := fun a b h => (okG_bit ok a b).1 h
  generalize hf : joins f0 G = f at *
  have hC : compL m G = (reps f m).map fun i => memI (cl f i) := by
    rw [compL, if_pos ok, Int.toNat_natCast, hf, compTo_reps]
  rw [hC]
  have hpw := reps_pw hm g m (Nat.le_refl _)
  have hcov := reps_cover hb hm m (Nat.le_refl _)
  have hlt := reps_lt f m
  have hlen : (reps f m).length ≤ m := by
    have := (compTo_lt hb m hm).2
    rw [compTo_reps, List.length_map] at this
    exact this
  generalize reps f m = rp at *
  have hmem : ∀ a (ha : a < rp.length) (x : Int), x ∈ (rp.map fun i => memI (cl f i)).getD a [] ↔ ∃ j : Nat, x = j ∧ R f rp[a] j := by
    intro a ha x
    rw [getD_map _ _ _ ha, memI_mem]
    constructor
    · rintro ⟨j, h1, h2, h3⟩; exact ⟨j, h1, h3⟩
    · rintro ⟨j, h1, h3⟩
      have := R_lt hm g (hlt _ (List.getElem_mem ha)) h3
      exact ⟨j, h1, by omega, h3⟩
  have huniq : ∀ a b (ha : a < rp.length) (hb : b < rp.length) x, R f rp[a] x → R f rp[b] x → a = b := by
    intro a b ha hb x h1 h2
    rw [List.pairwise_iff_getElem] at hpw
    by_cases q : a < b
    · exact absurd h2 (hpw a b ha hb q x h1)
    · by_cases q2 : b < a
      · exact absurd h1 (hpw b a hb ha q2 x h2)
      · omega
  have htag : ∀ i (p : Int × Int), i ≤ rp.length → (p ∈ tagsTo (rp.map fun i => memI (cl f i)) i ↔ ∃ a, ∃ ha : a < rp.length, ∃ j : Nat, a < i ∧ p = ((j : Int), (a : Int) + 1) ∧ R f rp[a] j) := by
    intro i p hi
    rw [tags_mem]
    constructor
    · rintro ⟨a, h1, h2, h3⟩
      have ha : a < rp.length := by omega
      obtain ⟨j, hj, hr⟩ := (hmem a ha _).1 h2
      exact ⟨a, ha, j, h1, by rw [← hj, ← h3], hr⟩
    · rintro ⟨a, ha, j, h1, rfl, hr⟩
      exact ⟨a, h1, (hmem a ha _).2 ⟨j, rfl, hr⟩, rfl⟩
  have hPt : ∀ v, v < m → ∃ a, ∃ ha : a < rp.length, R f rp[a] v ∧ (setAll m (tagsTo (rp.map fun i => memI (cl f i)) rp.length)).getD v 0 = (a : Int) + 1 := by
    intro v hv
    obtain ⟨i, hi, hr⟩ := hcov v hv
    obtain ⟨a, ha, rfl⟩ := List.getElem_of_mem hi
    refine ⟨a, ha, hr, setAll_one hv ?_ ⟨((v : Int), (a : Int) + 1), (htag _ _ (Nat.le_refl _)).2 ⟨a, ha, v, ha, rfl, hr⟩, by simp⟩⟩
    intro p hp hpv
    obtain ⟨b, hb', j, _, rfl, hrj⟩ := (htag _ _ (Nat.le_refl _)).1 hp
    simp only [Int.toNat_natCast] at hpv
    subst hpv
    rw [huniq a b ha hb' j hr hrj]
  refine ⟨by simpa using hlen, ?_, ?_, ?_, ?_, ?_⟩
  · intro i hi
    rw [List.length_map] at hi
    rw [getD_map _ _ _ hi]
    exact memI_len _
  · intro i hi k hk
    rw [List.length_map] at hi
    have hx : ((rp.map fun i => memI (cl f i)).getD i []).getD k 0 ∈ (rp.map fun i => memI (cl f i)).getD i [] := by
      generalize (rp.map fun i => memI (cl f i)).getD i [] = xs at *
      rw [List.getD_eq_getElem?_getD, List.getElem?_eq_getElem hk]
      exact List.getElem_mem hk
    obtain ⟨v, hv, hr⟩ := (hmem i hi _).1 hx
    refine ⟨v, hv, R_lt hm g (hlt _ (List.getElem_mem hi)) hr, setAll_none ?_⟩
    intro p hp hpv
    rw [tagsIn, List.mem_append] at hp
    rcases hp with hp | hp
    · obtain ⟨a, ha, j, h1, rfl, hrj⟩ := (htag i p (by omega)).1 hp
      simp only [Int.toNat_natCast] at hpv
      subst hpv
      have := huniq a i ha hi j hrj hr
      omega
    · obtain ⟨y, hy, rfl⟩ := List.mem_map.1 hp
      have hs : ((rp.map fun i => memI (cl f i)).getD i []).Pairwise (· < ·) := by rw [getD_map _ _ _ hi]; exact memI_sorted _
      obtain ⟨z, hz, _⟩ := (hmem i hi y).1 (List.mem_of_mem_take hy)
      subst hz
      simp only [Int.toNat_natCast] at hpv
      subst hpv
      generalize (rp.map fun i => memI (cl f i)).getD i [] = xs at *
      obtain ⟨q, hq, hqe⟩ := List.getElem_of_mem hy
      rw [List.length_take] at hq
      rw [List.getElem_take] at hqe
      have := (List.pairwise_iff_getElem.1 hs) q k (by omega) hk (by omega)
      rw [hqe] at this
      rw [List.getD_eq_getElem?_getD, List.getElem?_eq_getElem hk, Option.getD_some] at hv
      omega
  · intro i hi k h0 hk
    rw [List.length_map] at hi
    have hs : ((rp.map fun i => memI (cl f i)).getD i []).Pairwise (· < ·) := by rw [getD_map _ _ _ hi]; exact memI_sorted _
    generalize (rp.map fun i => memI (cl f i)).getD i [] = xs at *
    have := (List.pairwise_iff_getElem.1 hs) (k - 1) k (by omega) hk (by omega)
    rw [List.getD_eq_getElem?_getD, List.getD_eq_getElem?_getD, List.getElem?_eq_getElem hk, List.getElem?_eq_getElem (show k - 1 < xs.length by omega)]
    exact this
  · rw [List.length_map]
    have hnd : ∀ i, i ≤ rp.length → ((tagsTo (rp.map fun i => memI (cl f i)) i).map fun p => p.1.toNat).Nodup := by
      intro i
      induction i with
      | zero => intro _; simp [tagsTo]
      | succ i ih =>
        intro hi
        have hi' : i < rp.length := by omega
        rw [tagsTo, List.map_append, List.nodup_append]
        refine ⟨ih (by omega), ?_, ?_⟩
        · rw [getD_map _ _ _ hi', List.map_map]
          have : (memI (cl f rp[i])).map ((fun p : Int × Int => p.1.toNat) ∘ fun v => (v, (i : Int) + 1)) = mem (cl f rp[i]) := by
            rw [memI, List.map_map]
            conv => rhs; rw [← List.map_id (mem (cl f rp[i]))]
            apply List.map_congr_left
            intro x _
            simp
          rw [this]
          exact (mem_sorted _).imp (fun h => by omega)
        · intro x hx y hy hxy
          subst hxy
          obtain ⟨p, hp, rfl⟩ := List.mem_map.1 hx
          obtain ⟨a, ha, j, h1, rfl, hrj⟩ := (htag i p (by omega)).1 hp
          rw [List.mem_map] at hy
          obtain ⟨q, hq, hqe⟩ := hy
          obtain ⟨z, hz, rfl⟩ := List.mem_map.1 hq
          obtain ⟨v, hv, hr⟩ := (hmem i hi' z).1 hz
          subst hv
          simp only [Int.toNat_natCast] at hqe
          subst hqe
          have := huniq a i ha hi' v hrj hr
          omega
    have hp : List.Perm ((tagsTo (rp.map fun i => memI (cl f i)) rp.length).map fun p => p.1.toNat) (List.range m) := by
      rw [List.perm_ext_iff_of_nodup (hnd _ (Nat.le_refl _)) List.nodup_range]
      intro x
      rw [List.mem_range, List.mem_map]
      constructor
      · rintro ⟨p, hp, rfl⟩
        obtain ⟨a, ha, j, h1, rfl, hrj⟩ := (htag _ p (Nat.le_refl _)).1 hp
        simpa using R_lt hm g (hlt _ (List.getElem_mem ha)) hrj
      · intro hx
        obtain ⟨a, ha, hr, _⟩ := hPt x hx
        exact ⟨((x : Int), (a : Int) + 1), (htag _ _ (Nat.le_refl _)).2 ⟨a, ha, x, ha, rfl, hr⟩, by simp⟩
    have := hp.length_eq
    rw [List.length_map, List.length_range] at this
    exact this
  · intro i hi j hj
    rw [List.length_map, passes_iff hm g hEd hA hi hj]
    obtain ⟨a, ha, hra, e1⟩ := hPt i hi
    obtain ⟨b, hb', hrb, e2⟩ := hPt j hj
    have la := hlt _ (List.getElem_mem ha)
    have lb := hlt _ (List.getElem_mem hb')
    rw [e1, e2]
    constructor
    · intro e
      obtain rfl : a = b := by omega
      exact R_trans hb (by omega) (by omega) (R_symm hm g la hra) hrb
    · intro h
      have := huniq a b ha hb' j (R_trans hb (by omega) (by omega) hra h) hrb
      omega
end Go.Proofs.YtkkfoonaobehaaaDoor.CompP
