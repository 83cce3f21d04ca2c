import Derived.Test.YtkkfoonaobehaaaDoorChD
import Derived.Test.YtkkfoonaobehaaaDoorChE
namespace Go.Proofs.YtkkfoonaobehaaaDoor.ClqE
open Go.Proofs.YtkkfoonaobehaaaDoor.Bits Go.Proofs.YtkkfoonaobehaaaDoor.Low Go.Proofs.YtkkfoonaobehaaaDoor.Search Go.Proofs.YtkkfoonaobehaaaDoor.Earl Go.Proofs.YtkkfoonaobehaaaDoor.GrP Go.Proofs.YtkkfoonaobehaaaDoor.ChA Go.Proofs.YtkkfoonaobehaaaDoor.ChB Go.Proofs.YtkkfoonaobehaaaDoor.ChC Go.Proofs.YtkkfoonaobehaaaDoor.Tri Go.Proofs.YtkkfoonaobehaaaDoor.ChE Go.Proofs.YtkkfoonaobehaaaDoor.Cl Go.Proofs.YtkkfoonaobehaaaDoor.Sort Go.Proofs.YtkkfoonaobehaaaDoor.Cmp
set_option linter.unusedVariables false
set_option linter.unusedSimpArgs false
/-! The sort sorts. -/
theorem lex_lt : ∀ xs ys : List Int, lexCmp xs ys < 0 ↔ xs < ys
  | [], [] => by simp [lexCmp]
  | [], y :: ys => by simp [lexCmp]
  | x :: xs, [] => by simp [lexCmp]
  | x :: xs, y :: ys => by
    rw [lexCmp, List.cons_lt_cons_iff, ← lex_lt xs ys]
    by_cases h1 : x < y
    · simp [h1]
    · by_cases h2 : y < x
      · have : ¬ x = y := by omega
        simp [h1, h2, this]
      · have : x = y := by omega
        simp [this]
/-- The list is sorted up to i but for what stands at j, and that comes before what stands behind it. -/
def SInv (xs : List (List Int)) (i j : Nat) : Prop := (∀ a b, a < b → b ≤ i → a ≠ j → b ≠ j → xs.getD a [] ≤ xs.getD b []) ∧ (∀ b, j < b → b ≤ i → xs.getD j [] ≤ xs.getD b [])
def SortedTo (xs : List (List Int)) (i : Nat) : Prop := ∀ a b, a < b → b ≤ i → xs.getD a [] ≤ xs.getD b []
theorem sw_get (xs : List (List Int)) (j : Nat) (h : j + 1 < xs.length) (a : Nat) : (sw xs j).getD a [] = if a = j then xs.getD (j + 1) [] else if a = j + 1 then xs.getD j [] else xs.getD a [] := by
  unfold sw
  simp only [List.getD_eq_getElem?_getD, List.getElem?_set, List.length_set]
  have hj : j < xs.length := by omega
  by_cases h1 : a = j
  · subst h1; simp [hj]
  · have h1' : ¬ j = a := fun e => h1 e.symm
    by_cases h2 : a = j + 1
    · subst h2; simp [h]
    · have h2' : ¬ j + 1 = a := fun e => h2 e.symm
      simp [h1, h1', h2, h2']
theorem down_sorted (i : Nat) : ∀ (j : Nat) (xs : List (List Int)), j ≤ i → i < xs.length → SInv xs i j → SortedTo (down j xs) i
  | 0, xs, hj, hi, h => by
    intro a b hab hb
    rw [down]
    by_cases e : a = 0
    · subst e; exact h.2 b hab hb
    · exact h.1 a b hab hb e (by omega)
  | j + 1, xs, hj, hi, h => by
    rw [down]
    have hg := sw_get xs j (by omega)
    split
    · rename_i hlt
      rw [lex_lt] at hlt
      have hle : xs.getD (j + 1) [] ≤ xs.getD j [] := List.le_of_lt hlt
      refine down_sorted i j _ (by omega) (by rw [sw_len]; exact hi) ⟨fun a b hab hb ha hb' => ?_, fun b hab hb => ?_⟩
      · rw [hg a, hg b, if_neg ha, if_neg hb']
        by_cases e1 : a = j + 1
        · rw [if_pos e1, if_neg (by omega)]
          exact h.1 j b (by omega) hb (by omega) (by omega)
        · rw [if_neg e1]
          by_cases e2 : b = j + 1
          · rw [if_pos e2]
            exact h.1 a j (by omega) (by omega) e1 (by omega)
          · rw [if_neg e2]
            exact h.1 a b hab hb e1 e2
      · rw [hg j, hg b, if_pos rfl, if_neg (by omega)]
        by_cases e2 : b = j + 1
        · rw [if_pos e2]; exact hle
        · rw [if_neg e2]; exact h.2 b (by omega) hb
    · rename_i hlt
      rw [lex_lt] at hlt
      have hle : xs.getD j [] ≤ xs.getD (j + 1) [] := hlt
      intro a b hab hb
      by_cases e1 : a = j + 1
      · subst e1; exact h.2 b hab hb
      · by_cases e2 : b = j + 1
        · subst e2
          by_cases e3 : a = j
          · subst e3; exact hle
          · exact List.le_trans (h.1 a j (by omega) (by omega) e1 (by omega)) hle
        · exact h.1 a b hab hb e1 e2
theorem insTo_sorted (xs : List (List Int)) : ∀ i, i < xs.length → SortedTo (insTo xs i) i
  | 0, _ => fun a b hab hb => by omega
  | i + 1, h => by
    rw [insTo]
    have ih := insTo_sorted xs i (by omega)
    exact down_sorted (i + 1) (i + 1) _ (Nat.le_refl _) (by rw [insTo_len]; exact h) ⟨fun a b hab hb _ hb' => ih a b hab (by omega), fun b hb1 hb2 => by omega⟩
theorem sortL_sorted (xs : List (List Int)) : (sortL xs).Pairwise (· ≤ ·) := by
  rw [List.pairwise_iff_getElem]
  intro a b ha hb hab
  have hl : (sortL xs).length = xs.length := (sortL_perm xs).length_eq
  rw [hl] at ha hb
  have := insTo_sorted xs (xs.length - 1) (by omega) a b hab (by omega)
  have e : ∀ k (hk : k < (sortL xs).length), (insTo xs (xs.length - 1)).getD k [] = (sortL xs)[k] := fun k hk => by
    show (sortL xs).getD k [] = _
    simp [List.getD_eq_getElem?_getD, hk]
  rw [e a (by omega), e b (by omega)] at this
  exact this
theorem sortL_eq {xs ys : List (List Int)} (hx : xs.Nodup) (hy : ys.Nodup) (h : ∀ a, a ∈ xs ↔ a ∈ ys) : sortL xs = sortL ys := by
  have hp : List.Perm xs ys := (List.perm_ext_iff_of_nodup hx hy).2 h
  exact List.Perm.eq_of_pairwise (le := (· ≤ ·)) (fun a b _ _ h1 h2 => List.le_antisymm h1 h2) (sortL_sorted xs) (sortL_sorted ys) ((sortL_perm xs).trans (hp.trans (sortL_perm ys).symm))
/-! The cliques of the reference. -/
noncomputable def mskR (f : Nat → Nat) (n r : Nat) : Nat := andn (f (findTo f n (rem f n r).1 n).toNat) (rem f n r).1 ||| 2 ^ (findTo f n (rem f n r).1 n).toNat
noncomputable def allM (f : Nat → Nat) (n : Nat) : Nat → List Nat
  | 0 => []
  | r + 1 => allM f n r ++ [mskR f n r]
theorem allM_len (f : Nat → Nat) (n : Nat) : ∀ r, (allM f n r).length = r
  | 0 => rfl
  | r + 1 => by rw [allM, List.length_append, allM_len f n r]; rfl
theorem allM_get (f : Nat → Nat) (n r : Nat) : ∀ k, r < k → (allM f n k).getD r 0 = mskR f n r
  | 0, h => by omega
  | k + 1, h => by
    rw [allM]
    by_cases e : r = k
    · subst e
      simp [List.getD_eq_getElem?_getD, List.getElem?_append_right, allM_len]
    · have := allM_get f n r k (by omega)
      rw [List.getD_eq_getElem?_getD, List.getElem?_append_left (by rw [allM_len]; omega), ← List.getD_eq_getElem?_getD, this]
section
variable {f : Nat → Nat} {n : Nat}
theorem allM_K (hn : n ≤ 64) (g : Gr n f) (h : ChE.Can f n n) : IsK n f (rpos f n) (fun v => (allM f n n).getD (pos (rem f n n).2 v) 0) := by
  intro v hv j
  have ho := rem_ord h
  have hpv := ho.pos_lt hv
  rw [ho.len] at hpv
  obtain ⟨u, h1, hu, h2, h3, h4⟩ := rem_get f n h hpv
  have hgv := ho.get_pos hv
  have huv : u = v := by
    rw [← h4, List.getD_eq_getElem?_getD, List.getElem?_eq_getElem (by rw [ho.len]; exact hpv), Option.getD_some]
    exact hgv
  subst huv
  show ((allM f n n).getD (pos (rem f n n).2 u) 0).testBit j = true ↔ _
  rw [allM_get f n _ n hpv, mskR, h1, Int.toNat_natCast, Nat.testBit_or, andn_bit, Nat.testBit_two_pow, Bool.or_eq_true, Bool.and_eq_true, decide_eq_true_eq]
  constructor
  · rintro (⟨a, b⟩ | rfl)
    · have hj := (g.lt u j a).2
      have hju : j ≠ u := fun e => g.ne u j a e.symm
      refine .inr ⟨a, ?_⟩
      have hb : ¬ (rem f n (pos (rem f n n).2 u)).1.testBit j = true := by simpa using b
      rw [gone_iff h (Nat.le_of_lt hpv) hj] at hb
      have hpj := ho.pos_lt hj
      rw [ho.len] at hpj
      have : pos (rem f n n).2 j ≠ pos (rem f n n).2 u := fun e => hju (ho.inj _ _ hj hu e)
      unfold rpos
      omega
    · exact .inl rfl
  · rintro (rfl | ⟨a, b⟩)
    · exact .inr rfl
    · have hj := (g.lt u j a).2
      refine .inl ⟨a, ?_⟩
      have hb : ¬ (rem f n (pos (rem f n n).2 u)).1.testBit j = true := by
        rw [gone_iff h (Nat.le_of_lt hpv) hj]
        unfold rpos at b
        omega
      simpa using hb
theorem rawM_mem (hn : n ≤ 64) (g : Gr n f) (h : ChE.Can f n n) (x : List Int) : x ∈ rawTo (allM f n n) n ↔ ∃ Q, MaxQ n f Q ∧ x = memI Q := by
  have hK := allM_K hn g h
  have ho := rem_ord h
  have hl := allM_len f n n
  have hi := rpos_inj h
  have hp := rpos_perf hn g h
  rw [rawTo_mem]
  constructor
  · rintro ⟨i, hil', hx, hs⟩
    have hil : i < (rem f n n).2.length := by rw [ho.len]; exact hil'
    have hip := ho.pos_get hil
    refine ⟨(allM f n n).getD i 0, (max_iff g hi hp hK _).2 ⟨(rem f n n).2[i], ho.lt _ (List.getElem_mem hil), by simp only [hip], fun u hu hne => ?_⟩, hx⟩
    simp only [hip]
    have hpu := ho.pos_lt hu
    rw [ho.len] at hpu
    exact hs (pos (rem f n n).2 u) (by rw [hl]; exact hpu) (fun e => hne (by
      have := ho.get_pos hu
      simp only [← e] at this
      exact this.symm))
  · rintro ⟨Q, hQ, rfl⟩
    obtain ⟨v, hv, rfl, hs⟩ := (max_iff g hi hp hK _).1 hQ
    have hpv := ho.pos_lt hv
    rw [ho.len] at hpv
    refine ⟨pos (rem f n n).2 v, hpv, rfl, fun q hq hne => ?_⟩
    have hql : q < (rem f n n).2.length := by rw [ho.len]; rw [hl] at hq; exact hq
    have := hs (rem f n n).2[q] (ho.lt _ (List.getElem_mem hql)) (fun e => hne (by rw [← e, ho.pos_get hql]))
    simpa only [ho.pos_get hql] using this
theorem mskR_lt (hn : n ≤ 64) (g : Gr n f) (h : ChE.Can f n n) {r : Nat} (hr : r < n) : mskR f n r < 18446744073709551616 := by
  obtain ⟨u, h1, hu, h2, h3, h4⟩ := rem_get f n h hr
  refine Nat.lt_pow_two_of_testBit (n := 64) _ (fun j hj => ?_)
  rw [mskR, h1, Int.toNat_natCast, Nat.testBit_or, andn_bit, Nat.testBit_two_pow]
  have e1 : ¬ u = j := by omega
  have e2 : (f u).testBit j = false := by
    cases e : (f u).testBit j
    · rfl
    · have := (g.lt u j e).2; omega
  simp [e1, e2]
theorem allM_lt (hn : n ≤ 64) (g : Gr n f) (h : ChE.Can f n n) : ∀ r, r ≤ n → ∀ x ∈ allM f n r, x < 18446744073709551616
  | 0, _ => by simp [allM]
  | r + 1, hr => by
    intro x hx
    rw [allM, List.mem_append, List.mem_singleton] at hx
    rcases hx with hx | rfl
    · exact allM_lt hn g h r (by omega) x hx
    · exact mskR_lt hn g h (by omega)
theorem allM_nodup (hn : n ≤ 64) (g : Gr n f) (h : ChE.Can f n n) : (allM f n n).Nodup := by
  have hK := allM_K hn g h
  have ho := rem_ord h
  have hl := allM_len f n n
  refine List.pairwise_iff_getElem.2 fun a b ha hb hab e => ?_
  rw [hl] at ha hb
  have ha' : a < (rem f n n).2.length := by rw [ho.len]; exact ha
  have hb' : b < (rem f n n).2.length := by rw [ho.len]; exact hb
  have := K_inj hK (ho.lt _ (List.getElem_mem ha')) (ho.lt _ (List.getElem_mem hb')) (fun j => by
    simp only [ho.pos_get ha', ho.pos_get hb', List.getD_eq_getElem?_getD, List.getElem?_eq_getElem (show a < (allM f n n).length by omega), List.getElem?_eq_getElem (show b < (allM f n n).length by omega), e])
  have := (List.pairwise_iff_getElem.1 ho.nd) a b ha' hb' hab
  contradiction
end
open Go.Proofs.YtkkfoonaobehaaaDoor.Read Go.Proofs.YtkkfoonaobehaaaDoor.Ext Go.Proofs.YtkkfoonaobehaaaDoor.Chord Go.Proofs.YtkkfoonaobehaaaDoor.ChD
theorem can_of_chord {m : Nat} {X : List (Int × Int)} (hm : m ≤ 64) (ok : okG m X = true) (hc : chordB m X = true) : ChE.Can (joins f0 X) m m := by
  rw [can_iff hm (okG_gr ok), ← chord_iff hm (okG_gr ok)]
  rw [chordB, ok, Bool.true_and, Int.toNat_natCast] at hc
  exact hc
theorem clq_nodup {m : Nat} {X : List (Int × Int)} (hm : m ≤ 64) (ok : okG m X = true) (hc : chordB m X = true) : (clqL m X).Nodup := by
  obtain ⟨bs, hb⟩ := chord_some ok hc
  have g := okG_gr ok
  have ho := search_ord (joins f0 X) m
  obtain ⟨hal, hK⟩ := alls_K hm g ho hb
  rw [clqL_perm ok hb, (sortL_perm _).nodup_iff]
  refine rawTo_nodup _ ?_ (alls_nodup hm g ho hb) _ (by rw [hal]; exact Nat.le_refl _)
  intro x hx
  obtain ⟨i, hi, rfl⟩ := List.getElem_of_mem hx
  have hil : i < (searchL (joins f0 X) m).length := by rw [ho.len, ← hal]; exact hi
  have hv := ho.lt _ (List.getElem_mem hil)
  refine Nat.lt_pow_two_of_testBit (n := 64) _ (fun j hj => ?_)
  apply Classical.byContradiction
  intro q
  have := K_lt g hK hv (a := j) (by
    rw [ho.pos_get hil, List.getD_eq_getElem?_getD, List.getElem?_eq_getElem hi]
    simpa using q)
  omega
theorem clq_eq {m : Nat} {X : List (Int × Int)} (hm : m ≤ 64) (ok : okG m X = true) (hc : chordB m X = true) : sortL (rawTo (allM (joins f0 X) m m) m) = clqL m X := by
  have hcan := can_of_chord hm ok hc
  have hg := okG_gr ok
  obtain ⟨bs, hb⟩ := chord_some ok hc
  have h1 := clq_nodup hm ok hc
  have h2 := clq_mem hm ok hc
  rw [clqL_perm ok hb] at h1 h2 ⊢
  refine sortL_eq (rawTo_nodup _ (allM_lt hm hg hcan m (Nat.le_refl _)) (allM_nodup hm hg hcan) _ (by rw [allM_len]; exact Nat.le_refl _)) ((sortL_perm _).nodup_iff.1 h1) (fun a => ?_)
  rw [rawM_mem hm hg hcan, ← h2, (sortL_perm _).mem_iff]
end Go.Proofs.YtkkfoonaobehaaaDoor.ClqE
