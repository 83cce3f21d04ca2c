import Derived.Test.YtkkfoonaobehaaaDoorChB
namespace Go.Proofs.YtkkfoonaobehaaaDoor.ChT1
open Go.Proofs.YtkkfoonaobehaaaDoor.Bits Go.Proofs.YtkkfoonaobehaaaDoor.ChB
set_option linter.unusedVariables false
set_option linter.unusedSimpArgs false
/-! Masks and how many they hold. -/
theorem filter_or_and (p q : Nat → Bool) : ∀ l : List Nat, (l.filter fun x => p x || q x).length + (l.filter fun x => p x && q x).length = (l.filter p).length + (l.filter q).length
  | [] => rfl
  | x :: l => by
    have ih := filter_or_and p q l
    simp only [List.filter_cons]
    cases e1 : p x <;> cases e2 : q x <;> simp <;> omega
theorem pc_union (a b : Nat) : pc (a ||| b) + pc (a &&& b) = pc a + pc b := by
  have h := filter_or_and a.testBit b.testBit (List.range 64)
  have e1 : pc (a ||| b) = ((List.range 64).filter fun x => a.testBit x || b.testBit x).length := by
    unfold pc mem
    congr 1
    apply List.filter_congr
    intro x _
    exact Nat.testBit_or a b x
  have e2 : pc (a &&& b) = ((List.range 64).filter fun x => a.testBit x && b.testBit x).length := by
    unfold pc mem
    congr 1
    apply List.filter_congr
    intro x _
    exact Nat.testBit_and a b x
  rw [e1, e2]
  exact h
theorem pc_sub {x y : Nat} (h : ∀ i, x.testBit i = true → y.testBit i = true) : pc x ≤ pc y := (filter_len (List.range 64) (fun j _ hj => h j hj)).1
theorem pc_eq_sub {x y : Nat} (h : ∀ i, x.testBit i = true → y.testBit i = true) (e : pc x = pc y) (i : Nat) (hi : i < 64) (hy : y.testBit i = true) : x.testBit i = true := by
  apply Classical.byContradiction
  intro q
  have := pc_lt h i hi hy (by simpa using q)
  omega
/-- The union of a list of masks. -/
def U (l : List Nat) : Nat := l.foldl (· ||| ·) 0
theorem U_snoc (l : List Nat) (m : Nat) : U (l ++ [m]) = U l ||| m := by simp [U]
theorem U_bit (l : List Nat) (x : Nat) : (U l).testBit x = true ↔ ∃ m ∈ l, m.testBit x = true := by
  have : ∀ (l : List Nat) (a : Nat), (l.foldl (· ||| ·) a).testBit x = true ↔ a.testBit x = true ∨ ∃ m ∈ l, m.testBit x = true := by
    intro l
    induction l with
    | nil => intro a; simp
    | cons m l ih =>
      intro a
      rw [List.foldl_cons, ih, Nat.testBit_or, Bool.or_eq_true]
      simp [or_assoc]
  rw [U, this]
  simp
/-- What each mask shares with those before it. -/
def ito (l : List Nat) : Nat → Nat
  | 0 => 0
  | r + 1 => ito l r + pc (l.getD r 0 &&& U (l.take r))
def sto (l : List Nat) : Nat → Nat
  | 0 => 0
  | r + 1 => sto l r + pc (l.getD r 0)
theorem take_snoc (l : List Nat) (r : Nat) (h : r < l.length) : l.take (r + 1) = l.take r ++ [l.getD r 0] := by
  rw [List.take_succ_eq_append_getElem h]
  simp [List.getD_eq_getElem?_getD, h]
theorem ito_eq (l : List Nat) : ∀ r, r ≤ l.length → ito l r + pc (U (l.take r)) = sto l r
  | 0, _ => by simp [ito, sto, U, pc, mem]
  | r + 1, h => by
    have ih := ito_eq l r (by omega)
    have := pc_union (U (l.take r)) (l.getD r 0)
    rw [ito, sto, take_snoc l r h, U_snoc, Nat.and_comm (l.getD r 0)]
    omega
theorem sto_sum (l : List Nat) : ∀ r, r ≤ l.length → sto l r = ((l.take r).map pc).sum
  | 0, _ => by simp [sto]
  | r + 1, h => by
    rw [sto, take_snoc l r h, List.map_append, List.sum_append, sto_sum l r (by omega)]
    simp
theorem ito_perm {l l' : List Nat} (h : List.Perm l l') : ito l l.length = ito l' l'.length := by
  have h1 := ito_eq l l.length (Nat.le_refl _)
  have h2 := ito_eq l' l'.length (Nat.le_refl _)
  rw [sto_sum l _ (Nat.le_refl _)] at h1
  rw [sto_sum l' _ (Nat.le_refl _)] at h2
  rw [List.take_length] at h1 h2
  have e1 : (l.map pc).sum = (l'.map pc).sum := (h.map pc).sum_nat
  have e2 : U l = U l' := by
    apply Nat.eq_of_testBit_eq
    intro j
    have : (U l).testBit j = true ↔ (U l').testBit j = true := by
      rw [U_bit, U_bit]
      constructor
      · rintro ⟨m, hm, hb⟩; exact ⟨m, h.mem_iff.1 hm, hb⟩
      · rintro ⟨m, hm, hb⟩; exact ⟨m, h.mem_iff.2 hm, hb⟩
    cases a : (U l).testBit j <;> cases b : (U l').testBit j <;> simp_all
  rw [e2] at h1
  omega
/-! Places in a list without repetition. -/
section
variable {A : List Nat}
theorem np_lt {x : Nat} (hx : x ∈ A) : pos A x < A.length := List.idxOf_lt_length_iff.2 hx
theorem np_get {x : Nat} (hx : x ∈ A) : A[pos A x]'(np_lt hx) = x := List.getElem_idxOf (np_lt hx)
theorem np_pos (hA : A.Nodup) {k : Nat} (hk : k < A.length) : pos A A[k] = k := hA.idxOf_getElem k hk
theorem np_inj {x y : Nat} (hx : x ∈ A) (hy : y ∈ A) (e : pos A x = pos A y) : x = y := by
  have h1 := np_get hx
  have h2 := np_get hy
  simp only [e] at h1
  rw [← h1, h2]
theorem np_take (hA : A.Nodup) {x r : Nat} (hx : x ∈ A) : x ∈ A.take r ↔ pos A x < r := by
  rw [List.mem_take_iff_getElem]
  constructor
  · rintro ⟨i, hi, e⟩
    have hil : i < A.length := by omega
    have := np_pos hA hil
    rw [e] at this
    omega
  · intro hk
    exact ⟨pos A x, by have := np_lt hx; omega, np_get hx⟩
end
/-! Sums by thresholds. -/
theorem count_one (x : Nat) : ∀ B, x ≤ B → ((List.range B).map fun t => if t < x then 1 else 0).sum = x := by
  have key : ∀ B, ((List.range B).map fun t => if t < x then 1 else 0).sum = min x B := by
    intro B
    induction B with
    | zero => simp
    | succ B ih =>
      rw [List.range_succ, List.map_append, List.sum_append, ih]
      simp only [List.map_cons, List.map_nil, List.sum_cons, List.sum_nil]
      split <;> omega
  intro B h
  rw [key]
  omega
theorem sum_add (l : List Nat) (a b : Nat → Nat) : (l.map fun t => a t + b t).sum = (l.map a).sum + (l.map b).sum := by
  induction l with
  | nil => rfl
  | cons t l ih => simp only [List.map_cons, List.sum_cons, ih]; omega
theorem sum_thresh (B : Nat) (x : Nat → Nat) : ∀ l : List Nat, (∀ i ∈ l, x i ≤ B) → (l.map x).sum = ((List.range B).map fun t => (l.filter fun i => decide (t < x i)).length).sum
  | [], _ => by
    have : ∀ l : List Nat, (l.map fun _ => 0).sum = 0 := fun l => by induction l <;> simp_all
    simp [this]
  | a :: l, h => by
    have ih := sum_thresh B x l (fun i hi => h i (List.mem_cons_of_mem _ hi))
    have h1 := count_one (x a) B (h a (by simp))
    have e : (fun t => ((a :: l).filter fun i => decide (t < x i)).length) = fun t => (if t < x a then 1 else 0) + (l.filter fun i => decide (t < x i)).length := by
      funext t
      by_cases q : t < x a
      · simp [List.filter_cons, q]; omega
      · simp [List.filter_cons, q]
    rw [e, sum_add, h1, ← ih]
    rfl
theorem sum_le (l : List Nat) (a b : Nat → Nat) (h : ∀ t ∈ l, a t ≤ b t) : (l.map a).sum ≤ (l.map b).sum := by
  induction l with
  | nil => exact Nat.le_refl _
  | cons t l ih =>
    simp only [List.map_cons, List.sum_cons]
    have := h t (by simp)
    have := ih (fun x hx => h x (List.mem_cons_of_mem _ hx))
    omega
theorem filter_not (p : Nat → Bool) : ∀ l : List Nat, (l.filter p).length + (l.filter fun x => !p x).length = l.length
  | [] => rfl
  | x :: l => by
    have := filter_not p l
    simp only [List.filter_cons]
    cases p x <;> simp <;> omega
section
variable {A B : List Nat} {w : Nat → Nat → Nat} {wA wB : Nat → Nat}
/-- How many light elements stand up to x. -/
def blk (A : List Nat) (wA : Nat → Nat) (t x : Nat) : Nat := (A.filter fun l => decide (wA l ≤ t) && decide (pos A l ≤ pos A x)).length
theorem blk_le (A : List Nat) (wA : Nat → Nat) (t : Nat) {x y : Nat} (h : pos A x ≤ pos A y) : blk A wA t x ≤ blk A wA t y := by
  refine (filter_len A ?_).1
  intro l _ hl
  simp only [Bool.and_eq_true, decide_eq_true_eq] at hl ⊢
  exact ⟨hl.1, by omega⟩
theorem blk_lt (A : List Nat) (wA : Nat → Nat) (t : Nat) {x y l : Nat} (h : pos A x < pos A l) (h2 : pos A l ≤ pos A y) (hl : l ∈ A) (hw : wA l ≤ t) : blk A wA t x < blk A wA t y := by
  refine (filter_len A ?_).2 ⟨l, hl, ?_, ?_⟩
  · intro l _ hl
    simp only [Bool.and_eq_true, decide_eq_true_eq] at hl ⊢
    exact ⟨hl.1, by omega⟩
  · simp only [Bool.and_eq_true, decide_eq_true_eq]
    exact ⟨hw, h2⟩
  · rw [Bool.and_eq_false_iff]
    right
    simp
    omega
theorem low_le (hA : A.Nodup) (hB : B.Nodup) (hAB : ∀ x, x ∈ A ↔ x ∈ B) (sy : ∀ x y, w x y = w y x)
    (hT : ∀ r (h : r < A.length), 0 < r → ∀ x ∈ A, x ∉ A.take r → ∀ y ∈ A.take r, w x y ≤ wA A[r])
    (hJ : ∀ r (h : r < B.length), wB B[r] = 0 ∨ ∃ y ∈ B.take r, wB B[r] = w B[r] y) (t : Nat) :
    (A.filter fun x => decide (wA x ≤ t)).length ≤ (B.filter fun x => decide (wB x ≤ t)).length := by
  have same0 : ∀ x y, x ∈ A → y ∈ A → t < w x y → pos A x ≤ pos A y → blk A wA t x = blk A wA t y := by
    intro x y hx hy hw hle
    by_cases e : pos A x = pos A y
    · rw [np_inj hx hy e]
    · apply Classical.byContradiction
      intro hne
      have hlt := blk_le A wA t hle
      have hex : ∃ l ∈ A, wA l ≤ t ∧ pos A x < pos A l ∧ pos A l ≤ pos A y := by
        apply Classical.byContradiction
        intro hno
        apply hne
        apply Nat.le_antisymm hlt
        refine (filter_len A ?_).1
        intro l hl hq
        simp only [Bool.and_eq_true, decide_eq_true_eq] at hq ⊢
        refine ⟨hq.1, ?_⟩
        apply Classical.byContradiction
        intro h2
        exact hno ⟨l, hl, hq.1, by omega, hq.2⟩
      obtain ⟨l, hl, hlw, h1, h2⟩ := hex
      have hll := np_lt hl
      have := hT (pos A l) hll (by omega) y hy (by rw [np_take hA hy]; omega) x ((np_take hA hx).2 h1)
      rw [np_get hl, sy y x] at this
      omega
  have same : ∀ x y, x ∈ A → y ∈ A → t < w x y → blk A wA t x = blk A wA t y := by
    intro x y hx hy hw
    by_cases h : pos A x ≤ pos A y
    · exact same0 x y hx hy hw h
    · exact (same0 y x hy hx (by rw [sy]; exact hw) (by omega)).symm
  have inj : ∀ l l', l ∈ A → l' ∈ A → wA l ≤ t → wA l' ≤ t → blk A wA t l = blk A wA t l' → l = l' := by
    intro l l' hl hl' hw hw' e
    apply np_inj hl hl'
    apply Classical.byContradiction
    intro hne
    by_cases h : pos A l < pos A l'
    · have := blk_lt A wA t h (Nat.le_refl _) hl' hw'; omega
    · have := blk_lt A wA t (x := l') (y := l) (l := l) (by omega) (Nat.le_refl _) hl hw; omega
  have first : ∀ l, l ∈ A → ∃ j, j ∈ B ∧ blk A wA t j = blk A wA t l ∧ wB j ≤ t := by
    intro l hl
    have hlB := (hAB l).1 hl
    obtain ⟨q, hq, ⟨hqB, hqe⟩, hmin⟩ := ChA.least (fun q => ∃ h : q < B.length, blk A wA t B[q] = blk A wA t l) (pos B l) ⟨np_lt hlB, by rw [np_get hlB]⟩
    refine ⟨B[q], List.getElem_mem hqB, hqe, ?_⟩
    apply Classical.byContradiction
    intro hgt
    rcases hJ q hqB with h0 | ⟨y, hy, hyw⟩
    · omega
    · obtain ⟨k, hk, hke⟩ := List.mem_take_iff_getElem.1 hy
      have hyB : y ∈ B := List.mem_of_mem_take hy
      have hs := same B[q] y ((hAB _).2 (List.getElem_mem hqB)) ((hAB y).2 hyB) (by omega)
      exact hmin k (by omega) ⟨by omega, by rw [hke, ← hs, hqe]⟩
  obtain ⟨j, hj⟩ := Classical.skolem.1 (fun l => show ∃ j, l ∈ A → j ∈ B ∧ blk A wA t j = blk A wA t l ∧ wB j ≤ t from by
    by_cases h : l ∈ A
    · obtain ⟨j, hj⟩ := first l h; exact ⟨j, fun _ => hj⟩
    · exact ⟨0, fun h' => absurd h' h⟩)
  have hnd : ((A.filter fun x => decide (wA x ≤ t)).map j).Nodup := by
    show List.Pairwise (· ≠ ·) _
    rw [List.pairwise_map]
    refine List.Pairwise.imp_of_mem ?_ (List.Pairwise.filter _ hA)
    intro a b ha hb hab e
    rw [List.mem_filter, decide_eq_true_eq] at ha hb
    have h1 := (hj a ha.1).2.1
    have h2 := (hj b hb.1).2.1
    rw [e, h2] at h1
    exact hab (inj a b ha.1 hb.1 ha.2 hb.2 h1.symm)
  have := hnd.length_le_of_subset (l₂ := B.filter fun x => decide (wB x ≤ t)) (by
    intro x hx
    obtain ⟨l, hl, rfl⟩ := List.mem_map.1 hx
    rw [List.mem_filter, decide_eq_true_eq] at hl
    have := hj l hl.1
    exact List.mem_filter.2 ⟨this.1, by simpa using this.2.2⟩)
  rwa [List.length_map] at this
theorem tree_sum (hA : A.Nodup) (hB : B.Nodup) (hAB : ∀ x, x ∈ A ↔ x ∈ B) (sy : ∀ x y, w x y = w y x)
    (hT : ∀ r (h : r < A.length), 0 < r → ∀ x ∈ A, x ∉ A.take r → ∀ y ∈ A.take r, w x y ≤ wA A[r])
    (hJ : ∀ r (h : r < B.length), wB B[r] = 0 ∨ ∃ y ∈ B.take r, wB B[r] = w B[r] y)
    (bA : ∀ x ∈ A, wA x ≤ 64) (bB : ∀ x ∈ B, wB x ≤ 64) : (B.map wB).sum ≤ (A.map wA).sum := by
  rw [sum_thresh 64 wB B bB, sum_thresh 64 wA A bA]
  apply sum_le
  intro t _
  have h1 := low_le hA hB hAB sy hT hJ t
  have h2 := filter_not (fun x => decide (wA x ≤ t)) A
  have h3 := filter_not (fun x => decide (wB x ≤ t)) B
  have e1 : (A.filter fun x => !decide (wA x ≤ t)) = A.filter fun i => decide (t < wA i) := by
    apply List.filter_congr
    intro x _
    rw [Bool.eq_iff_iff]; simp
  have e2 : (B.filter fun x => !decide (wB x ≤ t)) = B.filter fun i => decide (t < wB i) := by
    apply List.filter_congr
    intro x _
    rw [Bool.eq_iff_iff]; simp
  rw [e1] at h2
  rw [e2] at h3
  have hp : A.length = B.length := ((List.perm_ext_iff_of_nodup hA hB).2 hAB).length_eq
  omega
end
end Go.Proofs.YtkkfoonaobehaaaDoor.ChT1
