import Derived.Test.YtkkfoonaobehaaaDoorChA
import Derived.Test.YtkkfoonaobehaaaDoorChord
import Derived.Test.YtkkfoonaobehaaaDoorGrP
namespace Go.Proofs.YtkkfoonaobehaaaDoor.ChB
open Go.Proofs.YtkkfoonaobehaaaDoor.Bits Go.Proofs.YtkkfoonaobehaaaDoor.Low Go.Proofs.YtkkfoonaobehaaaDoor.Sets Go.Proofs.YtkkfoonaobehaaaDoor.Read Go.Proofs.YtkkfoonaobehaaaDoor.Search Go.Proofs.YtkkfoonaobehaaaDoor.Earl Go.Proofs.YtkkfoonaobehaaaDoor.Ext Go.Proofs.YtkkfoonaobehaaaDoor.Chord Go.Proofs.YtkkfoonaobehaaaDoor.GrP Go.Proofs.YtkkfoonaobehaaaDoor.ChA
set_option linter.unusedVariables false
set_option linter.unusedSimpArgs false
/-- Adjacency. -/
def Ad (f : Nat → Nat) (a b : Nat) : Prop := (f a).testBit b = true
def Vn (n : Nat) (a : Nat) : Prop := a < n
theorem filter_len {p q : Nat → Bool} : ∀ (l : List Nat), (∀ x ∈ l, p x = true → q x = true) → (l.filter p).length ≤ (l.filter q).length ∧ ((∃ x ∈ l, q x = true ∧ p x = false) → (l.filter p).length < (l.filter q).length)
  | [], _ => by simp
  | x :: l, h => by
    obtain ⟨h1, h2⟩ := filter_len l (fun y hy => h y (List.mem_cons_of_mem _ hy))
    have h0 := h x (by simp)
    constructor
    · cases e1 : p x <;> cases e2 : q x <;> simp_all <;> omega
    · rintro ⟨y, hy, hq, hp⟩
      rcases List.mem_cons.1 hy with rfl | hy
      · simp [hq, hp]; omega
      · have := h2 ⟨y, hy, hq, hp⟩
        cases e1 : p x <;> cases e2 : q x <;> simp_all <;> omega
theorem pc_lt {x y : Nat} (h : ∀ i, x.testBit i = true → y.testBit i = true) (i : Nat) (hi : i < 64) (h1 : y.testBit i = true) (h2 : x.testBit i = false) : pc x < pc y :=
  (filter_len (List.range 64) (fun j _ hj => h j hj)).2 ⟨i, by simpa using hi, h1, h2⟩
/-! The search. -/
theorem pickTo_max (f : Nat → Nat) (done k : Nat) : (∀ i, i < k → done.testBit i = false → (pc (f i &&& done) : Int) ≤ (pickTo f done k).2) ∧ (∀ v : Nat, (pickTo f done k).1 = v → (pickTo f done k).2 = (pc (f v &&& done) : Int)) := by
  induction k with
  | zero => exact ⟨fun i hi => by omega, fun v hv => by simp [pickTo] at hv⟩
  | succ k ih =>
    rw [pickTo_succ]
    unfold better
    obtain ⟨h1, h2⟩ := ih
    by_cases h : done.testBit k = false ∧ (pickTo f done k).2 < (pc (f k &&& done) : Int)
    · rw [if_pos h]
      refine ⟨fun i hi hd => ?_, fun v hv => ?_⟩
      · by_cases e : i = k
        · subst e; exact Int.le_refl _
        · have := h1 i (by omega) hd
          simp only
          omega
      · simp only at hv ⊢
        rw [show v = k by omega]
    · rw [if_neg h]
      refine ⟨fun i hi hd => ?_, h2⟩
      by_cases e : i = k
      · subst e
        apply Classical.byContradiction
        intro q
        exact h ⟨hd, by omega⟩
      · exact h1 i (by omega) hd
theorem runS_prefix (f : Nat → Nat) (n : Nat) : ∀ r, (runS f n (r + 1)).2 = (runS f n r).2 ++ [(pickTo f (runS f n r).1 n).1.toNat] := fun r => rfl
theorem runS_take (f : Nat → Nat) (n : Nat) : ∀ d r, r + d ≤ n → (runS f n (r + d)).2.take r = (runS f n r).2
  | 0, r, h => by rw [Nat.add_zero, List.take_of_length_le (by rw [(runS_inv f n r (by omega)).1]; exact Nat.le_refl _)]
  | d + 1, r, h => by
    have e : r + (d + 1) = (r + d) + 1 := by omega
    rw [e, runS_prefix, List.take_append_of_le_length (by rw [(runS_inv f n (r + d) (by omega)).1]; omega)]
    exact runS_take f n d r (by omega)
theorem search_take (f : Nat → Nat) (n r : Nat) (h : r ≤ n) : (searchL f n).take r = (runS f n r).2 := by
  have := runS_take f n (n - r) r (by omega)
  rw [show r + (n - r) = n by omega] at this
  exact this
/-- The place of a vertex in the search. -/
def pos (l : List Nat) (v : Nat) : Nat := l.idxOf v
section
variable {l : List Nat} {n : Nat}
/-- l holds each of the n first numbers once. -/
structure Ord (n : Nat) (l : List Nat) : Prop where
  len : l.length = n
  lt : ∀ i ∈ l, i < n
  nd : l.Nodup
theorem Ord.all (h : Ord n l) {v : Nat} (hv : v < n) : v ∈ l := by
  apply Classical.byContradiction
  intro hm
  have hp : (v :: l).Nodup := List.nodup_cons.2 ⟨hm, h.nd⟩
  have : (v :: l).length ≤ (List.range n).length := hp.length_le_of_subset (fun x hx => by
    rcases List.mem_cons.1 hx with rfl | hx
    · simpa using hv
    · simpa using h.lt x hx)
  rw [List.length_cons, h.len, List.length_range] at this
  omega
theorem Ord.pos_lt (h : Ord n l) {v : Nat} (hv : v < n) : pos l v < l.length := List.idxOf_lt_length_iff.2 (h.all hv)
theorem Ord.get_pos (h : Ord n l) {v : Nat} (hv : v < n) : l[pos l v]'(h.pos_lt hv) = v := List.getElem_idxOf (h.pos_lt hv)
theorem Ord.pos_get (h : Ord n l) {k : Nat} (hk : k < l.length) : pos l l[k] = k := h.nd.idxOf_getElem k hk
theorem Ord.inj (h : Ord n l) : Inj (Vn n) (pos l) := fun a b ha hb e => by
  have h1 := h.get_pos ha
  have h2 := h.get_pos hb
  simp only [e] at h1
  rw [← h1, h2]
theorem Ord.take (h : Ord n l) {v k : Nat} (hv : v < n) : v ∈ l.take k ↔ pos l v < k := by
  rw [List.mem_take_iff_getElem]
  constructor
  · rintro ⟨i, hi, e⟩
    have hil : i < l.length := by omega
    have := h.pos_get hil
    rw [e] at this
    omega
  · intro hk
    exact ⟨pos l v, by have := h.pos_lt hv; omega, h.get_pos hv⟩
end
theorem search_ord (f : Nat → Nat) (n : Nat) : Ord n (searchL f n) := ⟨(searchL_inv f n).1, (searchL_inv f n).2.1, (searchL_inv f n).2.2⟩
theorem search_P {n : Nat} {f : Nat → Nat} (hn : n ≤ 64) (g : Gr n f) : PropP (Vn n) (Ad f) (pos (searchL f n)) := by
  intro u v w hu hv hw hwv hvu huw hvw
  have ho := search_ord f n
  have hk := ho.pos_lt hv
  rw [ho.len] at hk
  obtain ⟨r, hr⟩ : ∃ r, r = pos (searchL f n) v := ⟨_, rfl⟩
  rw [← hr] at hk hwv hvu ⊢
  obtain ⟨i1, i2, i3, i4⟩ := runS_inv f n r (by omega)
  have hD : ∀ x, x < n → ((runS f n r).1.testBit x = true ↔ pos (searchL f n) x < r) := by
    intro x hx
    rw [i2 x, ← search_take f n r (by omega), ho.take hx]
  have hpk : (pickTo f (runS f n r).1 n).1 = (v : Int) := by
    obtain ⟨x, hx, hxn, _⟩ := runS_pick f n r hk
    have e1 := ho.get_pos hv
    have e2 : (searchL f n).take (r + 1) = (runS f n r).2 ++ [x] := by rw [search_take f n (r + 1) (by omega), runS_prefix, hx, Int.toNat_natCast]
    have e3 : ((searchL f n).take (r + 1))[r]? = some x := by rw [e2, List.getElem?_append_right (by omega), i1]; simp
    rw [List.getElem?_take_of_lt (by omega), List.getElem?_eq_getElem (by rw [ho.len]; exact hk)] at e3
    simp only [hr] at e3
    rw [e1] at e3
    rw [hx]
    injection e3 with e3
    rw [e3]
  obtain ⟨m1, m2⟩ := pickTo_max f (runS f n r).1 n
  have hle := m1 u hu (by
    have := (hD u hu)
    cases e : (runS f n r).1.testBit u
    · rfl
    · have := this.1 e; omega)
  rw [m2 v hpk] at hle
  apply Classical.byContradiction
  intro hno
  have hall : ∀ x, x < n → pos (searchL f n) x < r → Ad f v x → Ad f u x := by
    intro x hx hxr hvx
    apply Classical.byContradiction
    intro q
    exact hno ⟨x, hx, hxr, hvx, q⟩
  have := pc_lt (x := f v &&& (runS f n r).1) (y := f u &&& (runS f n r).1) (fun x hx => by
    rw [Nat.testBit_and, Bool.and_eq_true] at hx ⊢
    have hxn := (g.lt v x hx.1).2
    exact ⟨hall x hxn ((hD x hxn).1 hx.2) hx.1, hx.2⟩) w (by have : w < n := hw; omega) (by rw [Nat.testBit_and, Bool.and_eq_true]; exact ⟨huw, (hD w hw).2 hwv⟩) (by
      rw [Nat.testBit_and]
      have : (f v).testBit w = false := by simpa [Ad] using hvw
      rw [this]; rfl)
  omega
/-! The check of the earlier neighbors. -/
theorem clq_iff {n : Nat} {f : Nat → Nat} (hn : n ≤ 64) {b : Nat} (hb : ∀ k, b.testBit k = true → k < n) : clq f b = true ↔ ∀ k j, b.testBit k = true → b.testBit j = true → k ≠ j → (f k).testBit j = true := by
  rw [clq, List.all_eq_true]
  constructor
  · intro h k j hk hj hkj
    have := h k (mem_mem.2 ⟨by have := hb k hk; omega, hk⟩)
    rw [beq_iff_eq] at this
    have hbit : (bad f b k).testBit j = false := by rw [this]; simp
    rw [bad, andn_bit, hj, nbr, Nat.testBit_or] at hbit
    simp only [Bool.true_and, Bool.not_eq_false', Bool.or_eq_true] at hbit
    rcases hbit with q | q
    · exact q
    · exact absurd ((bit_pow k j).1 q).symm hkj
  · intro h k hk
    rw [beq_iff_eq]
    have hk' := (mem_mem.1 hk).2
    apply Nat.eq_of_testBit_eq
    intro j
    rw [bad, andn_bit, nbr, Nat.testBit_or, Nat.zero_testBit]
    cases e : b.testBit j
    · rfl
    · simp only [Bool.true_and, Bool.not_eq_false', Bool.or_eq_true]
      by_cases q : k = j
      · subst q; right; simp
      · exact .inl (h k j hk' e q)
theorem earl_iff {n : Nat} {f : Nat → Nat} (hn : n ≤ 64) (g : Gr n f) : ∀ (l : List Nat) (d : Nat) (out : List Nat), ((earl f l d out).isSome = true ↔ ∀ l1 v l2, l = l1 ++ v :: l2 → ∀ a b, (d.testBit a = true ∨ a ∈ l1) → (d.testBit b = true ∨ b ∈ l1) → (f v).testBit a = true → (f v).testBit b = true → a ≠ b → (f a).testBit b = true)
  | [], d, out => by
    simp only [earl, Option.isSome_some, true_iff]
    intro l1 v l2 h
    simp at h
  | x :: l, d, out => by
    have hc : clq f (f x &&& d) = true ↔ ∀ a b, d.testBit a = true → d.testBit b = true → (f x).testBit a = true → (f x).testBit b = true → a ≠ b → (f a).testBit b = true := by
      rw [clq_iff hn (b := f x &&& d) (fun k hk => by rw [Nat.testBit_and, Bool.and_eq_true] at hk; exact (g.lt x k hk.1).2)]
      simp only [Nat.testBit_and, Bool.and_eq_true]
      exact ⟨fun h a b h1 h2 h3 h4 h5 => h a b ⟨h3, h1⟩ ⟨h4, h2⟩ h5, fun h a b h1 h2 h3 => h a b h1.2 h2.2 h1.1 h2.1 h3⟩
    rw [earl]
    by_cases hq : clq f (f x &&& d) = true
    · rw [if_pos hq, earl_iff hn g l _ _]
      constructor
      · intro h l1 v l2 e a b ha hb
        cases l1 with
        | nil =>
          simp only [List.nil_append, List.cons.injEq] at e
          obtain ⟨rfl, rfl⟩ := e
          simp only [List.not_mem_nil, or_false] at ha hb
          exact (hc.1 hq) a b ha hb
        | cons y l1 =>
          simp only [List.cons_append, List.cons.injEq] at e
          obtain ⟨rfl, e⟩ := e
          refine h l1 v l2 e a b ?_ ?_
          · rw [Nat.testBit_or, Bool.or_eq_true, bit_pow]
            rcases ha with q | q
            · exact .inl (.inl q)
            · rcases List.mem_cons.1 q with q | q
              · exact .inl (.inr q)
              · exact .inr q
          · rw [Nat.testBit_or, Bool.or_eq_true, bit_pow]
            rcases hb with q | q
            · exact .inl (.inl q)
            · rcases List.mem_cons.1 q with q | q
              · exact .inl (.inr q)
              · exact .inr q
      · intro h l1 v l2 e a b ha hb
        refine h (x :: l1) v l2 (by rw [e]; rfl) a b ?_ ?_
        · rw [Nat.testBit_or, Bool.or_eq_true, bit_pow] at ha
          rcases ha with (q | q) | q
          · exact .inl q
          · right; rw [q]; simp
          · right; simp [q]
        · rw [Nat.testBit_or, Bool.or_eq_true, bit_pow] at hb
          rcases hb with (q | q) | q
          · exact .inl q
          · right; rw [q]; simp
          · right; simp [q]
    · rw [if_neg hq]
      simp only [Option.isSome_none, Bool.false_eq_true, false_iff]
      intro h
      exact hq (hc.2 (fun a b ha hb => h [] x l rfl a b (.inl ha) (.inl hb)))
theorem earl_perf {n : Nat} {f : Nat → Nat} (hn : n ≤ 64) (g : Gr n f) {l : List Nat} (ho : Ord n l) : (earl f l 0 []).isSome = true ↔ Perf (Vn n) (Ad f) (pos l) := by
  rw [earl_iff hn g]
  constructor
  · intro h u a b hu ha hb hua hub hpa hpb hab
    have hk := ho.pos_lt hu
    have hsp : l = l.take (pos l u) ++ u :: l.drop (pos l u + 1) := by
      conv => lhs; rw [← List.take_append_drop (pos l u) l, List.drop_eq_getElem_cons hk, ho.get_pos hu]
    exact h _ _ _ hsp a b (.inr ((ho.take ha).2 hpa)) (.inr ((ho.take hb).2 hpb)) hua hub hab
  · intro h l1 v l2 e a b ha hb hva hvb hab
    simp only [Nat.zero_testBit, Bool.false_eq_true, false_or] at ha hb
    have hv : v < n := ho.lt v (by rw [e]; simp)
    have ha' : a < n := (g.lt v a hva).2
    have hb' : b < n := (g.lt v b hvb).2
    have hnd := ho.nd
    rw [e, List.nodup_append] at hnd
    have hvp : pos l v = l1.length := by
      have hm : v ∉ l1 := fun q => hnd.2.2 v q v (by simp) rfl
      unfold pos
      rw [e, List.idxOf_append, if_neg hm]
      simp
    have htk : l.take l1.length = l1 := by rw [e]; simp
    exact h v a b hv ha' hb' hva hvb (by rw [hvp, ← ho.take ha', htk]; exact ha) (by rw [hvp, ← ho.take hb', htk]; exact hb) hab
/-- Some order is perfect exactly if the search's own is. -/
theorem chord_iff {n : Nat} {f : Nat → Nat} (hn : n ≤ 64) (g : Gr n f) : (earl f (searchL f n) 0 []).isSome = true ↔ ∃ q, Inj (Vn n) q ∧ Perf (Vn n) (Ad f) q := by
  rw [earl_perf hn g (search_ord f n)]
  constructor
  · intro h; exact ⟨_, (search_ord f n).inj, h⟩
  · rintro ⟨q, hq, hp⟩
    exact mcs_perf (fun a b h => g.sy a b h) (fun a h => g.ne a a h rfl) hq hp (search_ord f n).inj (search_P hn g)
/-! The extension. -/
theorem joinRow_bit (a i j : Nat) : ∀ (l : List Nat) (f : Nat → Nat), (joinRow f a l i).testBit j = true ↔ (f i).testBit j = true ∨ (i = a ∧ j ∈ l) ∨ (j = a ∧ i ∈ l)
  | [], f => by simp [joinRow]
  | b :: l, f => by
    have e : joinRow f a (b :: l) = joinRow (join f a b) a l := rfl
    rw [e, joinRow_bit a i j l _, join_bit]
    simp only [List.mem_cons]
    constructor
    · rintro ((h | h | h) | h | h)
      · exact .inl h
      · exact .inr (.inl ⟨h.1, .inl h.2⟩)
      · exact .inr (.inr ⟨h.2, .inl h.1⟩)
      · exact .inr (.inl ⟨h.1, .inr h.2⟩)
      · exact .inr (.inr ⟨h.1, .inr h.2⟩)
    · rintro (h | ⟨h, q | q⟩ | ⟨h, q | q⟩)
      · exact .inl (.inl h)
      · exact .inl (.inr (.inl ⟨h, q⟩))
      · exact .inr (.inl ⟨h, q⟩)
      · exact .inl (.inr (.inr ⟨q, h⟩))
      · exact .inr (.inr ⟨h, q⟩)
theorem joinsTo_bit (l : List Nat) (f : Nat → Nat) (hl : l.Nodup) (i j : Nat) : ∀ k, k ≤ l.length → ((joinsTo l f k i).testBit j = true ↔ (f i).testBit j = true ∨ (i ∈ l.take k ∧ j ∈ l.take k ∧ i ≠ j))
  | 0, _ => by simp [joinsTo]
  | k + 1, hk => by
    have hkl : k < l.length := by omega
    have e : joinsTo l f (k + 1) = joinRow (joinsTo l f k) (l.getD k 0) (l.take k) := rfl
    have eg : l.getD k 0 = l[k] := by simp [List.getD_eq_getElem?_getD, hkl]
    have hnm : l[k] ∉ l.take k := by
      intro q
      obtain ⟨a, ha, hae⟩ := List.mem_take_iff_getElem.1 q
      exact (List.pairwise_iff_getElem.1 hl) a k (by omega) hkl (by omega) hae
    rw [e, joinRow_bit, joinsTo_bit l f hl i j k (by omega), eg, List.take_succ_eq_append_getElem hkl]
    simp only [List.mem_append, List.mem_singleton]
    constructor
    · rintro ((h | ⟨h1, h2, h3⟩) | ⟨h1, h2⟩ | ⟨h1, h2⟩)
      · exact .inl h
      · exact .inr ⟨.inl h1, .inl h2, h3⟩
      · exact .inr ⟨.inr h1, .inl h2, fun q => hnm (by rw [← h1, q]; exact h2)⟩
      · exact .inr ⟨.inl h2, .inr h1, fun q => hnm (by rw [← h1, ← q]; exact h2)⟩
    · rintro (h | ⟨h1 | h1, h2 | h2, h3⟩)
      · exact .inl (.inl h)
      · exact .inl (.inr ⟨h1, h2, h3⟩)
      · exact .inr (.inr ⟨h2, h1⟩)
      · exact .inr (.inl ⟨h1, h2⟩)
      · exact absurd (h1.trans h2.symm) h3
/-- What holds at each step of the extension. -/
structure ExtInv (n : Nat) (f : Nat → Nat) (s : St) : Prop where
  gr : Gr n s.f
  more : ∀ i j, (f i).testBit j = true → (s.f i).testBit j = true
  clq : ∀ k (hk : k < s.out.length), ∀ a b, a ∉ s.out.take k → b ∉ s.out.take k → (s.f s.out[k]).testBit a = true → (s.f s.out[k]).testBit b = true → a ≠ b → (s.f a).testBit b = true
theorem mem_nodup (u : Nat) : (mem u).Nodup := (mem_sorted u).imp (fun h => by omega)
theorem ext_inv {n : Nat} {f : Nat → Nat} (hn : n ≤ 64) (hf : Bd f) (g : Gr n f) : ∀ r, r ≤ n → ExtInv n f (runE f n r)
  | 0, _ => ⟨g, fun _ _ h => h, fun k hk => by simp [runE] at hk⟩
  | r + 1, h => by
    obtain ⟨i1, i2, i3, i4, i5⟩ := runE_inv f hf n hn r (by omega)
    obtain ⟨v, hv, hvn, hvb, _⟩ := runE_pick0 n r (runE f n r) (by omega) i1 i2
    have ih := ext_inv hn hf g r (by omega)
    have hvm : v ∉ (runE f n r).out := fun h => by rw [(i2 v).2 h] at hvb; cases hvb
    generalize hs : runE f n r = s at *
    have e : runE f n (r + 1) = { f := joinsTo (mem (andn (s.f v) s.gone)) s.f (mem (andn (s.f v) s.gone)).length, gone := s.gone ||| 2 ^ v, out := s.out ++ [v] } := by
      rw [runE, hs, stepE]
      simp only [hv, Int.toNat_natCast]
    rw [e]
    have hl : ∀ x, x ∈ mem (andn (s.f v) s.gone) ↔ (s.f v).testBit x = true ∧ x ∉ s.out := by
      intro x
      rw [mem_mem, andn_bit, Bool.and_eq_true]
      have := i2 x
      constructor
      · rintro ⟨_, h1, h2⟩
        exact ⟨h1, fun q => by rw [this.2 q] at h2; cases h2⟩
      · rintro ⟨h1, h2⟩
        refine ⟨by have := (ih.gr.lt v x h1).2; omega, h1, ?_⟩
        cases q : s.gone.testBit x
        · rfl
        · exact absurd (this.1 q) h2
    have hb : ∀ i j, ((joinsTo (mem (andn (s.f v) s.gone)) s.f (mem (andn (s.f v) s.gone)).length i).testBit j = true ↔ (s.f i).testBit j = true ∨ (((s.f v).testBit i = true ∧ i ∉ s.out) ∧ ((s.f v).testBit j = true ∧ j ∉ s.out) ∧ i ≠ j)) := by
      intro i j
      rw [joinsTo_bit _ _ (mem_nodup _) i j _ (Nat.le_refl _), List.take_length, hl, hl]
    generalize joinsTo (mem (andn (s.f v) s.gone)) s.f (mem (andn (s.f v) s.gone)).length = F at *
    have hold : ∀ i j, (i ∈ s.out ∨ i = v) → ((F i).testBit j = true ↔ (s.f i).testBit j = true) := by
      intro i j hi
      rw [hb]
      constructor
      · rintro (q | ⟨⟨q1, q2⟩, _⟩)
        · exact q
        · rcases hi with hi | hi
          · exact absurd hi q2
          · exact absurd hi.symm (ih.gr.ne v i q1)
      · exact .inl
    refine ⟨⟨fun i j q => ?_, fun i j q => ?_, fun i j q => ?_⟩, fun i j q => (hb i j).2 (.inl (ih.more i j q)), ?_⟩
    · rcases (hb i j).1 q with q | ⟨⟨q1, _⟩, ⟨q2, _⟩, _⟩
      · exact ih.gr.lt i j q
      · exact ⟨(ih.gr.lt v i q1).2, (ih.gr.lt v j q2).2⟩
    · rcases (hb i j).1 q with q | ⟨_, _, q⟩
      · exact ih.gr.ne i j q
      · exact q
    · rcases (hb i j).1 q with q | ⟨q1, q2, q3⟩
      · exact (hb j i).2 (.inl (ih.gr.sy i j q))
      · exact (hb j i).2 (.inr ⟨q2, q1, fun e => q3 e.symm⟩)
    · intro k hk a b ha hb' hva hvb' hab
      simp only [List.length_append, List.length_singleton] at hk
      by_cases hkr : k < s.out.length
      · simp only [List.getElem_append_left hkr] at hva hvb'
        simp only [List.take_append_of_le_length (show k ≤ s.out.length by omega)] at ha hb'
        rw [hold _ _ (.inl (List.getElem_mem hkr))] at hva hvb'
        exact (hb a b).2 (.inl (ih.clq k hkr a b ha hb' hva hvb' hab))
      · obtain rfl : k = s.out.length := by omega
        simp only [List.getElem_append_right (Nat.le_refl _), Nat.sub_self, List.getElem_singleton] at hva hvb'
        simp only [List.take_left'] at ha hb'
        rw [hold _ _ (.inr rfl)] at hva hvb'
        exact (hb a b).2 (.inr ⟨⟨hva, ha⟩, ⟨hvb', hb'⟩, hab⟩)
theorem ext_ok {n : Nat} {f : Nat → Nat} (hn : n ≤ 64) (hf : Bd f) (g : Gr n f) : Gr n (extF f n) ∧ (∀ i j, (f i).testBit j = true → (extF f n i).testBit j = true) ∧ ∃ q, Inj (Vn n) q ∧ Perf (Vn n) (Ad (extF f n)) q := by
  have h := ext_inv hn hf g n (Nat.le_refl _)
  obtain ⟨i1, i2, i3, i4, i5⟩ := runE_inv f hf n hn n (Nat.le_refl _)
  have ho : Ord n (runE f n n).out := ⟨i1, i3, i4⟩
  refine ⟨h.gr, h.more, fun v => n - pos (runE f n n).out v, fun a b ha hb e => ?_, ?_⟩
  · have h1 := ho.pos_lt ha
    have h2 := ho.pos_lt hb
    rw [ho.len] at h1 h2
    simp only at e
    exact ho.inj a b ha hb (by omega)
  · intro u a b hu ha hb hua hub hpa hpb hab
    simp only at hpa hpb
    have h1 := ho.pos_lt hu
    have hk := h1
    rw [ho.len] at h1
    have e := ho.get_pos hu
    refine h.clq _ hk a b ?_ ?_ ?_ ?_ hab
    · rw [ho.take ha]; omega
    · rw [ho.take hb]; omega
    · rw [e]; exact hua
    · rw [e]; exact hub
end Go.Proofs.YtkkfoonaobehaaaDoor.ChB
