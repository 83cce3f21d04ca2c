import Derived.Test.YtkkfoonaobehaaaDoorChB
import Derived.Test.YtkkfoonaobehaaaDoorCl
namespace Go.Proofs.YtkkfoonaobehaaaDoor.ChC
open Go.Proofs.YtkkfoonaobehaaaDoor.Bits Go.Proofs.YtkkfoonaobehaaaDoor.Low Go.Proofs.YtkkfoonaobehaaaDoor.Sets Go.Proofs.YtkkfoonaobehaaaDoor.Cmp Go.Proofs.YtkkfoonaobehaaaDoor.Read Go.Proofs.YtkkfoonaobehaaaDoor.Search Go.Proofs.YtkkfoonaobehaaaDoor.Earl Go.Proofs.YtkkfoonaobehaaaDoor.Chord Go.Proofs.YtkkfoonaobehaaaDoor.Sort Go.Proofs.YtkkfoonaobehaaaDoor.Cl Go.Proofs.YtkkfoonaobehaaaDoor.GrP Go.Proofs.YtkkfoonaobehaaaDoor.ChA Go.Proofs.YtkkfoonaobehaaaDoor.ChB
set_option linter.unusedVariables false
set_option linter.unusedSimpArgs false
/-- Q is a maximal clique. -/
structure MaxQ (n : Nat) (f : Nat → Nat) (Q : Nat) : Prop where
  lt : ∀ a, Q.testBit a = true → a < n
  ne : ∃ a, Q.testBit a = true
  clq : ∀ a b, Q.testBit a = true → Q.testBit b = true → a ≠ b → Ad f a b
  max : ∀ v, v < n → (∀ a, Q.testBit a = true → a ≠ v → Ad f a v) → Q.testBit v = true
def Sub (x y : Nat) : Prop := ∀ j, x.testBit j = true → y.testBit j = true
/-- The vertex with its neighbors of smaller number. -/
def IsK (n : Nat) (f p K : Nat → Nat) : Prop := ∀ v, v < n → ∀ j, ((K v).testBit j = true ↔ j = v ∨ (Ad f v j ∧ p j < p v))
section
variable {n : Nat} {f p K : Nat → Nat}
theorem K_clq (g : Gr n f) (hp : Perf (Vn n) (Ad f) p) (hK : IsK n f p K) {v : Nat} (hv : v < n) : ∀ a b, (K v).testBit a = true → (K v).testBit b = true → a ≠ b → Ad f a b := by
  intro a b ha hb hab
  rcases (hK v hv a).1 ha with rfl | ⟨h1, h2⟩
  · rcases (hK a hv b).1 hb with rfl | ⟨h3, h4⟩
    · exact absurd rfl hab
    · exact h3
  · rcases (hK v hv b).1 hb with rfl | ⟨h3, h4⟩
    · exact g.sy b a h1
    · exact hp v a b hv (g.lt v a h1).2 (g.lt v b h3).2 h1 h3 h2 h4 hab
theorem K_lt (g : Gr n f) (hK : IsK n f p K) {v : Nat} (hv : v < n) {a : Nat} (h : (K v).testBit a = true) : a < n := by
  rcases (hK v hv a).1 h with rfl | ⟨h1, _⟩
  · exact hv
  · exact (g.lt v a h1).2
/-- The last of finitely many. -/
theorem lastOf (P : Nat → Prop) (F : Nat → Nat) : ∀ m : Nat, (∃ i, i < m ∧ P i) → ∃ i, i < m ∧ P i ∧ ∀ k, k < m → P k → F k ≤ F i
  | 0, h => by obtain ⟨i, hi, _⟩ := h; omega
  | m + 1, h => by
    by_cases q : ∃ i, i < m ∧ P i
    · obtain ⟨i, hi, hp, hm⟩ := lastOf P F m q
      by_cases e : P m ∧ F i < F m
      · refine ⟨m, by omega, e.1, fun k hk hpk => ?_⟩
        by_cases ek : k = m
        · rw [ek]; exact Nat.le_refl _
        · have := hm k (by omega) hpk; omega
      · refine ⟨i, by omega, hp, fun k hk hpk => ?_⟩
        by_cases ek : k = m
        · subst ek
          apply Classical.byContradiction
          intro q2
          exact e ⟨hpk, by omega⟩
        · exact hm k (by omega) hpk
    · obtain ⟨i, hi, hp⟩ := h
      obtain rfl : i = m := by
        apply Classical.byContradiction
        intro e
        exact q ⟨i, by omega, hp⟩
      refine ⟨i, by omega, hp, fun k hk hpk => ?_⟩
      by_cases ek : k = i
      · rw [ek]; exact Nat.le_refl _
      · exact absurd ⟨k, by omega, hpk⟩ q
theorem clq_cover (hi : Inj (Vn n) p) (hK : IsK n f p K) (Q : Nat → Prop) (hlt : ∀ a, Q a → a < n) (hne : ∃ a, Q a) (hq : ∀ a b, Q a → Q b → a ≠ b → Ad f a b) : ∃ v, v < n ∧ Q v ∧ ∀ a, Q a → (K v).testBit a = true := by
  obtain ⟨a0, h0⟩ := hne
  obtain ⟨v, hv, hQ, hm⟩ := lastOf Q p n ⟨a0, hlt a0 h0, h0⟩
  refine ⟨v, hv, hQ, fun a ha => (hK v hv a).2 ?_⟩
  by_cases e : a = v
  · exact .inl e
  · refine .inr ⟨hq v a hQ ha (fun h => e h.symm), ?_⟩
    have h1 := hm a (hlt a ha) ha
    have h2 : p a ≠ p v := fun h => e (hi a v (hlt a ha) hv h)
    omega
theorem K_inj (hK : IsK n f p K) {u v : Nat} (hu : u < n) (hv : v < n) (h : ∀ j, (K u).testBit j = true ↔ (K v).testBit j = true) : u = v := by
  have h1 := (h u).1 ((hK u hu u).2 (.inl rfl))
  have h2 := (h v).2 ((hK v hv v).2 (.inl rfl))
  rcases (hK v hv u).1 h1 with e | ⟨_, e1⟩
  · exact e
  · rcases (hK u hu v).1 h2 with e | ⟨_, e2⟩
    · exact e.symm
    · omega
theorem bits_ext {x y : Nat} (h : ∀ j, x.testBit j = true ↔ y.testBit j = true) : x = y := by
  apply Nat.eq_of_testBit_eq
  intro j
  have := h j
  cases e1 : x.testBit j <;> cases e2 : y.testBit j <;> simp_all
theorem max_iff (g : Gr n f) (hi : Inj (Vn n) p) (hp : Perf (Vn n) (Ad f) p) (hK : IsK n f p K) (Q : Nat) : MaxQ n f Q ↔ ∃ v, v < n ∧ Q = K v ∧ ∀ u, u < n → u ≠ v → ¬ Sub (K v) (K u) := by
  constructor
  · intro h
    obtain ⟨v, hv, hQv, hsub⟩ := clq_cover hi hK (fun a => Q.testBit a = true) h.lt h.ne h.clq
    have hback : ∀ a, (K v).testBit a = true → Q.testBit a = true := fun a ha =>
      h.max a (K_lt g hK hv ha) (fun b hb hba => K_clq g hp hK hv b a (hsub b hb) ha hba)
    have hQ : Q = K v := bits_ext fun j => ⟨hsub j, hback j⟩
    refine ⟨v, hv, hQ, fun u hu huv hs => huv (K_inj hK hu hv fun j => ⟨fun hj => ?_, hs j⟩)⟩
    rw [← hQ]
    exact h.max j (K_lt g hK hu hj) (fun b hb hbj => K_clq g hp hK hu b j (hs b (by rw [← hQ]; exact hb)) hj hbj)
  · rintro ⟨v, hv, rfl, hm⟩
    refine ⟨fun a ha => K_lt g hK hv ha, ⟨v, (hK v hv v).2 (.inl rfl)⟩, K_clq g hp hK hv, fun x hx hall => ?_⟩
    apply Classical.byContradiction
    intro hn
    obtain ⟨u, hu, hQu, hsub⟩ := clq_cover hi hK (fun a => (K v).testBit a = true ∨ a = x) (fun a ha => by
        rcases ha with ha | rfl
        · exact K_lt g hK hv ha
        · exact hx) ⟨x, .inr rfl⟩ (fun a b ha hb hab => by
        rcases ha with ha | rfl
        · rcases hb with hb | rfl
          · exact K_clq g hp hK hv a b ha hb hab
          · exact hall a ha hab
        · rcases hb with hb | rfl
          · exact g.sy b a (hall b hb (fun e => hab e.symm))
          · exact absurd rfl hab)
    by_cases e : u = v
    · subst e
      exact hn (hsub x (.inr rfl))
    · exact hm u hu e (fun j hj => hsub j (.inl hj))
/-- Each of the cliques lies in a maximal one. -/
theorem K_cover (hn : n ≤ 64) (g : Gr n f) (hK : IsK n f p K) {v : Nat} (hv : v < n) : ∃ u, u < n ∧ Sub (K v) (K u) ∧ ∀ w, w < n → w ≠ u → ¬ Sub (K u) (K w) := by
  obtain ⟨u, hu, hs, hm⟩ := lastOf (fun u => Sub (K v) (K u)) (fun u => pc (K u)) n ⟨v, hv, fun _ h => h⟩
  refine ⟨u, hu, hs, fun w hw hwu hsub => ?_⟩
  have h1 := hm w hw (fun j hj => hsub j (hs j hj))
  apply hwu
  refine K_inj hK hw hu fun j => ⟨fun hj => ?_, hsub j⟩
  apply Classical.byContradiction
  intro q
  have hjn := K_lt g hK hw hj
  have := pc_lt (x := K u) (y := K w) hsub j (by omega) hj (by simpa using q)
  omega
theorem max_cover (hn : n ≤ 64) (g : Gr n f) (hi : Inj (Vn n) p) (hp : Perf (Vn n) (Ad f) p) (hK : IsK n f p K) (Q : Nat → Prop) (hlt : ∀ a, Q a → a < n) (hne : ∃ a, Q a) (hq : ∀ a b, Q a → Q b → a ≠ b → Ad f a b) : ∃ M, MaxQ n f M ∧ ∀ a, Q a → M.testBit a = true := by
  obtain ⟨v, hv, _, h1⟩ := clq_cover hi hK Q hlt hne hq
  obtain ⟨u, hu, h2, h3⟩ := K_cover hn g hK hv
  exact ⟨K u, (max_iff g hi hp hK _).2 ⟨u, hu, rfl, h3⟩, fun a ha => h2 a (h1 a ha)⟩
end
/-! The list of the cliques. -/
theorem insideTo_iff (all : List Nat) (i : Nat) : ∀ k, insideTo all i k = true ↔ ∃ q, q < k ∧ i ≠ q ∧ andn (all.getD i 0) (all.getD q 0) = 0
  | 0 => by simp [insideTo]
  | k + 1 => by
    rw [insideTo, Bool.or_eq_true, insideTo_iff all i k, Bool.and_eq_true, bne_iff_ne, beq_iff_eq]
    constructor
    · rintro (⟨q, h1, h2⟩ | ⟨h1, h2⟩)
      · exact ⟨q, by omega, h2⟩
      · exact ⟨k, by omega, h1, h2⟩
    · rintro ⟨q, h1, h2, h3⟩
      by_cases e : q = k
      · subst e; exact .inr ⟨h2, h3⟩
      · exact .inl ⟨q, by omega, h2, h3⟩
theorem andn_zero (a b : Nat) : andn a b = 0 ↔ Sub a b := by
  constructor
  · intro h j hj
    have : (andn a b).testBit j = false := by rw [h]; simp
    rw [andn_bit, hj] at this
    simpa using this
  · intro h
    apply Nat.eq_of_testBit_eq
    intro j
    rw [andn_bit, Nat.zero_testBit]
    have := h j
    cases e : a.testBit j
    · rfl
    · rw [this e]; rfl
theorem rawTo_mem (all : List Nat) (x : List Int) : ∀ k, x ∈ rawTo all k ↔ ∃ i, i < k ∧ x = memI (all.getD i 0) ∧ ∀ q, q < all.length → i ≠ q → ¬ Sub (all.getD i 0) (all.getD q 0)
  | 0 => by simp [rawTo]
  | k + 1 => by
    have hin : insideTo all k all.length = true ↔ ¬ ∀ q, q < all.length → k ≠ q → ¬ Sub (all.getD k 0) (all.getD q 0) := by
      rw [insideTo_iff]
      constructor
      · rintro ⟨q, h1, h2, h3⟩ h
        exact h q h1 h2 ((andn_zero _ _).1 h3)
      · intro h
        apply Classical.byContradiction
        intro hh
        exact h fun q h1 h2 h3 => hh ⟨q, h1, h2, (andn_zero _ _).2 h3⟩
    rw [rawTo]
    by_cases h : insideTo all k all.length = true
    · rw [if_pos h, rawTo_mem all x k]
      constructor
      · rintro ⟨i, h1, h2⟩; exact ⟨i, by omega, h2⟩
      · rintro ⟨i, h1, h2, h3⟩
        by_cases e : i = k
        · subst e; exact absurd h3 (hin.1 h)
        · exact ⟨i, by omega, h2, h3⟩
    · rw [if_neg h, List.mem_append, rawTo_mem all x k, List.mem_singleton]
      constructor
      · rintro (⟨i, h1, h2⟩ | rfl)
        · exact ⟨i, by omega, h2⟩
        · refine ⟨k, by omega, rfl, ?_⟩
          apply Classical.byContradiction
          intro q
          exact h (hin.2 q)
      · rintro ⟨i, h1, h2, h3⟩
        by_cases e : i = k
        · subst e; exact .inr h2
        · exact .inl ⟨i, by omega, h2, h3⟩
theorem memI_inj {x y : Nat} (hx : x < 18446744073709551616) (hy : y < 18446744073709551616) (h : memI x = memI y) : x = y := by
  apply bits_ext
  intro j
  have key : ∀ z : Nat, z < 18446744073709551616 → (z.testBit j = true ↔ (j : Int) ∈ memI z) := by
    intro z hz
    rw [memI_mem]
    constructor
    · intro hb
      refine ⟨j, rfl, ?_, hb⟩
      apply Classical.byContradiction
      intro q
      rw [Nat.testBit_lt_two_pow (Nat.lt_of_lt_of_le hz (Nat.pow_le_pow_right (n := 2) (by decide) (show 64 ≤ j by omega)))] at hb
      cases hb
    · rintro ⟨k, hk, _, hb⟩
      obtain rfl : j = k := by omega
      exact hb
  rw [key x hx, key y hy, h]
theorem rawTo_nodup (all : List Nat) (hb : ∀ x ∈ all, x < 18446744073709551616) (hnd : all.Nodup) : ∀ k, k ≤ all.length → (rawTo all k).Nodup
  | 0, _ => by simp [rawTo]
  | k + 1, h => by
    rw [rawTo]
    split
    · exact rawTo_nodup all hb hnd k (by omega)
    · rw [List.nodup_append]
      refine ⟨rawTo_nodup all hb hnd k (by omega), by simp, ?_⟩
      intro a ha b hb' e
      rw [List.mem_singleton] at hb'
      obtain ⟨i, hi, hx, _⟩ := (rawTo_mem all a k).1 ha
      rw [e, hb'] at hx
      have g : ∀ j (hj : j < all.length), all.getD j 0 = all[j] := fun j hj => by simp [List.getD_eq_getElem?_getD, hj]
      rw [g k (by omega), g i (by omega)] at hx
      have := memI_inj (hb _ (List.getElem_mem (by omega))) (hb _ (List.getElem_mem (by omega))) hx
      exact (List.pairwise_iff_getElem.1 hnd) i k (by omega) (by omega) hi this.symm
/-! Sorting. -/
theorem sw_cons (x : List Int) (xs : List (List Int)) (j : Nat) : sw (x :: xs) (j + 1) = x :: sw xs j := by
  simp [sw]
theorem sw_perm : ∀ (xs : List (List Int)) (j : Nat), j + 1 < xs.length → List.Perm (sw xs j) xs
  | [], j, h => by simp at h
  | [x], j, h => by simp at h
  | x :: y :: xs, 0, _ => by
    have : sw (x :: y :: xs) 0 = y :: x :: xs := by simp [sw]
    rw [this]
    exact List.Perm.swap _ _ _
  | x :: y :: xs, j + 1, h => by
    rw [sw_cons]
    exact (sw_perm (y :: xs) j (by simpa using h)).cons x
theorem down_perm : ∀ (j : Nat) (xs : List (List Int)), j < xs.length → List.Perm (down j xs) xs
  | 0, xs, _ => List.Perm.refl _
  | j + 1, xs, h => by
    rw [down]
    split
    · exact (down_perm j _ (by rw [sw_len]; omega)).trans (sw_perm xs j h)
    · exact List.Perm.refl _
theorem insTo_perm (xs : List (List Int)) : ∀ i, i < xs.length → List.Perm (insTo xs i) xs
  | 0, _ => List.Perm.refl _
  | i + 1, h => (down_perm (i + 1) _ (by rw [insTo_len]; exact h)).trans (insTo_perm xs i (by omega))
theorem sortL_perm (xs : List (List Int)) : List.Perm (sortL xs) xs := by
  by_cases h : xs = []
  · subst h; exact List.Perm.refl _
  · have : 0 < xs.length := List.length_pos_iff.2 h
    exact insTo_perm xs _ (by omega)
/-! The cliques of the program. -/
theorem earl_get (f : Nat → Nat) : ∀ (l : List Nat) (d : Nat) (out bs : List Nat), earl f l d out = some bs → ∀ k, k < l.length → ∀ j, ((bs.getD (out.length + k) 0).testBit j = true ↔ (f (l.getD k 0)).testBit j = true ∧ (d.testBit j = true ∨ j ∈ l.take k)) ∧ ∀ q, q < out.length → bs.getD q 0 = out.getD q 0
  | [], d, out, bs, h => by intro k hk; simp at hk
  | v :: l, d, out, bs, h => by
    rw [earl] at h
    split at h
    · have hkeep : ∀ (l : List Nat) (d : Nat) (out bs : List Nat), earl f l d out = some bs → ∀ q, q < out.length → bs.getD q 0 = out.getD q 0 := by
        intro l
        induction l with
        | nil => intro d out bs h q hq; simp [earl] at h; rw [h]
        | cons v l ih =>
          intro d out bs h q hq
          rw [earl] at h
          split at h
          · rw [ih _ _ _ h q (by simp; omega)]
            simp [List.getD_eq_getElem?_getD, List.getElem?_append_left hq]
          · cases h
      intro k hk j
      refine ⟨?_, fun q hq => by
        rw [hkeep l _ _ _ h q (by simp; omega)]
        simp [List.getD_eq_getElem?_getD, List.getElem?_append_left hq]⟩
      cases k with
      | zero =>
        rw [Nat.add_zero, hkeep l _ _ _ h out.length (by simp)]
        simp [List.getD_eq_getElem?_getD]
      | succ k =>
        have ih := (earl_get f l _ _ bs h k (by simpa using hk) j).1
        rw [List.length_append, List.length_singleton] at ih
        rw [show out.length + (k + 1) = out.length + 1 + k by omega, ih, Nat.testBit_or, Bool.or_eq_true, bit_pow]
        simp only [List.getD_cons_succ, List.take_succ_cons, List.mem_cons, or_assoc]
    · cases h
section
variable {n : Nat} {f : Nat → Nat}
/-- What Cliques puts together, by the vertices. -/
theorem alls_K (hn : n ≤ 64) (g : Gr n f) {l bs : List Nat} (ho : Ord n l) (h : earl f l 0 [] = some bs) : (alls bs l).length = n ∧ IsK n f (pos l) (fun v => (alls bs l).getD (pos l v) 0) := by
  have hbl := earl_len f l 0 [] bs h
  simp only [List.length_nil, Nat.zero_add] at hbl
  have hal : (alls bs l).length = n := by simp [alls, hbl, ho.len]
  refine ⟨hal, fun v hv j => ?_⟩
  have hk := ho.pos_lt hv
  have hg := (earl_get f l 0 [] bs h (pos l v) hk j).1
  simp only [List.length_nil, Nat.zero_add, Nat.zero_testBit, Bool.false_eq_true, false_or] at hg
  have e1 : l.getD (pos l v) 0 = v := by rw [List.getD_eq_getElem?_getD, List.getElem?_eq_getElem hk]; exact ho.get_pos hv
  rw [e1] at hg
  have e2 : (alls bs l).getD (pos l v) 0 = bs.getD (pos l v) 0 ||| 2 ^ v := by
    have h1 : pos l v < (alls bs l).length := by rw [hal, ← ho.len]; exact hk
    have h2 : pos l v < bs.length := by rw [hbl]; exact hk
    have e3 := ho.get_pos hv
    rw [List.getD_eq_getElem?_getD, List.getD_eq_getElem?_getD, List.getElem?_eq_getElem h1, List.getElem?_eq_getElem h2]
    simp only [alls, List.getElem_zipWith, Option.getD_some, e3]
  simp only [e2, Nat.testBit_or, Bool.or_eq_true, hg, bit_pow]
  constructor
  · rintro (⟨h1, h2⟩ | h1)
    · exact .inr ⟨h1, (ho.take (g.lt v j h1).2).1 h2⟩
    · exact .inl h1
  · rintro (h1 | ⟨h1, h2⟩)
    · exact .inr h1
    · exact .inl ⟨h1, (ho.take (g.lt v j h1).2).2 h2⟩
theorem alls_nodup (hn : n ≤ 64) (g : Gr n f) {l bs : List Nat} (ho : Ord n l) (h : earl f l 0 [] = some bs) : (alls bs l).Nodup := by
  obtain ⟨hl, hK⟩ := alls_K hn g ho h
  show List.Pairwise (· ≠ ·) (alls bs l)
  rw [List.pairwise_iff_getElem]
  intro i j hi hj hij e
  have hil : i < l.length := by rw [ho.len]; omega
  have hjl : j < l.length := by rw [ho.len]; omega
  have h1 := ho.pos_get hil
  have h2 := ho.pos_get hjl
  have := K_inj hK (ho.lt _ (List.getElem_mem hil)) (ho.lt _ (List.getElem_mem hjl)) (fun q => by
    simp only [h1, h2]
    rw [List.getD_eq_getElem?_getD, List.getD_eq_getElem?_getD, List.getElem?_eq_getElem hi, List.getElem?_eq_getElem hj]
    simp only [Option.getD_some, e])
  rw [← h1, ← h2, this] at hij
  omega
theorem raw_max (hn : n ≤ 64) (g : Gr n f) {l bs : List Nat} (ho : Ord n l) (hp : Perf (Vn n) (Ad f) (pos l)) (h : earl f l 0 [] = some bs) (x : List Int) : x ∈ rawTo (alls bs l) n ↔ ∃ Q, MaxQ n f Q ∧ x = memI Q := by
  obtain ⟨hl, hK⟩ := alls_K hn g ho h
  rw [rawTo_mem]
  constructor
  · rintro ⟨i, hi, hx, hs⟩
    have hil : i < l.length := by rw [ho.len]; exact hi
    have hip := ho.pos_get hil
    refine ⟨(alls bs l).getD i 0, (max_iff g ho.inj hp hK _).2 ⟨l[i], ho.lt _ (List.getElem_mem hil), by simp only [hip], fun u hu hne => ?_⟩, hx⟩
    simp only [hip]
    have hpu := ho.pos_lt hu
    rw [ho.len, ← hl] at hpu
    exact hs (pos l u) hpu (fun e => hne (by
      have := ho.get_pos hu
      simp only [← e] at this
      exact this.symm))
  · rintro ⟨Q, hQ, rfl⟩
    obtain ⟨v, hv, rfl, hs⟩ := (max_iff g ho.inj hp hK _).1 hQ
    have hpv := ho.pos_lt hv
    rw [ho.len] at hpv
    refine ⟨pos l v, hpv, rfl, fun q hq hne => ?_⟩
    have hql : q < l.length := by rw [ho.len, ← hl]; exact hq
    have := hs l[q] (ho.lt _ (List.getElem_mem hql)) (fun e => hne (by rw [← e, ho.pos_get hql]))
    simpa only [ho.pos_get hql] using this
end
end Go.Proofs.YtkkfoonaobehaaaDoor.ChC
