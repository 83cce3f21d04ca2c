import Derived.Test.YtkkfoonaobehaaaDoorChT3
namespace Go.Proofs.YtkkfoonaobehaaaDoor.ChT4
open Go.Proofs.YtkkfoonaobehaaaDoor.Bits Go.Proofs.YtkkfoonaobehaaaDoor.Low Go.Proofs.YtkkfoonaobehaaaDoor.Read Go.Proofs.YtkkfoonaobehaaaDoor.Search Go.Proofs.YtkkfoonaobehaaaDoor.Earl Go.Proofs.YtkkfoonaobehaaaDoor.Chord Go.Proofs.YtkkfoonaobehaaaDoor.Sort Go.Proofs.YtkkfoonaobehaaaDoor.Cl Go.Proofs.YtkkfoonaobehaaaDoor.Tr Go.Proofs.YtkkfoonaobehaaaDoor.GrP Go.Proofs.YtkkfoonaobehaaaDoor.ChA Go.Proofs.YtkkfoonaobehaaaDoor.ChB Go.Proofs.YtkkfoonaobehaaaDoor.ChC Go.Proofs.YtkkfoonaobehaaaDoor.ChD Go.Proofs.YtkkfoonaobehaaaDoor.ChT1 Go.Proofs.YtkkfoonaobehaaaDoor.ChT2 Go.Proofs.YtkkfoonaobehaaaDoor.ChT3
set_option linter.unusedVariables false
set_option linter.unusedSimpArgs false
theorem ins_ord (ls : List Nat) : Ord ls.length (insL ls ls.length) := by
  have h := pinv ls ls.length (Nat.le_refl _)
  exact ⟨h.len, h.lt, h.nd⟩
theorem ins_take' (ls : List Nat) (r : Nat) (h : r ≤ ls.length) : (insL ls ls.length).take r = insL ls r := by
  have := ins_take ls (ls.length - r) r (by omega)
  rwa [show r + (ls.length - r) = ls.length by omega] at this
/-- In the tree, what a set shares with those taken in before it lies in its parent. -/
theorem prim_rip (ls : List Nat) (hnd : ls.Nodup) (hb : ∀ x ∈ ls, x < 18446744073709551616)
    (L : List Nat) (hL : L.Nodup) (hLs : ∀ x, x ∈ L ↔ x ∈ ls)
    (hR : ∀ i (hi : i < L.length), 0 < i → ∃ k, ∃ hk : k < i, ∀ x, L[i].testBit x = true → (∃ j, ∃ hj : j < i, (L[j]'(by omega)).testBit x = true) → (L[k]'(by omega)).testBit x = true) :
    ∀ r (hr : r < ls.length), ∀ v, (ls.getD ((insL ls ls.length).getD r 0) 0).testBit v = true → (∃ j ∈ (insL ls ls.length).take r, (ls.getD j 0).testBit v = true) →
      ∃ k, k ∈ (insL ls ls.length).take r ∧ (Tr.runT ls ls.length).1.getD ((insL ls ls.length).getD r 0) 0 = (k : Int) ∧ (ls.getD k 0).testBit v = true := by
  have ho := ins_ord ls
  obtain ⟨o, hoe⟩ : ∃ o, o = insL ls ls.length := ⟨_, rfl⟩
  have htk := ins_take' ls
  have hout := outs ls ls.length (Nat.le_refl _)
  rw [← hoe] at ho htk hout ⊢
  have g : ∀ i, i < ls.length → ls.getD i 0 = ls[i]?.getD 0 := fun i _ => List.getD_eq_getElem?_getD
  have hod : ∀ r (hr : r < ls.length), o.getD r 0 = o[r]'(by rw [ho.len]; exact hr) := by
    intro r hr
    rw [List.getD_eq_getElem?_getD, List.getElem?_eq_getElem (by rw [ho.len]; exact hr)]
    rfl
  -- the masks in the order of the tree
  obtain ⟨A, hA⟩ : ∃ A, A = o.map fun i => ls.getD i 0 := ⟨_, rfl⟩
  have hAl : A.length = ls.length := by rw [hA, List.length_map, ho.len]
  have hAg : ∀ r, r < ls.length → A.getD r 0 = ls.getD (o.getD r 0) 0 := by
    intro r hr
    have : r < o.length := by rw [ho.len]; exact hr
    rw [hA]
    simp [List.getD_eq_getElem?_getD, this]
  have hlsg : ∀ i (hi : i < ls.length), ls.getD i 0 = ls[i] := fun i hi => by simp [List.getD_eq_getElem?_getD, hi]
  have hinj : ∀ i j, i < ls.length → j < ls.length → ls.getD i 0 = ls.getD j 0 → i = j := by
    intro i j hi hj e
    rw [hlsg i hi, hlsg j hj] at e
    have h1 := np_pos hnd hi
    have h2 := np_pos hnd hj
    rw [e, h2] at h1
    exact h1.symm
  have hAnd : A.Nodup := by
    rw [hA]
    show List.Pairwise (· ≠ ·) _
    rw [List.pairwise_map]
    refine List.Pairwise.imp_of_mem ?_ ho.nd
    intro a b ha hb' hab e
    exact hab (hinj a b (ho.lt a ha) (ho.lt b hb') e)
  have hAm : ∀ x, x ∈ A ↔ x ∈ ls := by
    intro x
    rw [hA, List.mem_map]
    constructor
    · rintro ⟨i, hi, rfl⟩
      rw [hlsg i (ho.lt i hi)]
      exact List.getElem_mem _
    · intro hx
      obtain ⟨i, hi, rfl⟩ := List.getElem_of_mem hx
      exact ⟨i, ho.all hi, hlsg i hi⟩
  have hAt : ∀ r, r ≤ ls.length → A.take r = (o.take r).map fun i => ls.getD i 0 := fun r _ => by rw [hA, List.map_take]
  -- what each step takes
  have hstep : ∀ r, r < ls.length → ∃ k, r ≠ 0 → k ∈ o.take r ∧ (∀ i', i' < ls.length → i' ∉ o.take r → ∀ k', k' ∈ o.take r → wt ls i' k' ≤ wt ls (o.getD r 0) k) ∧ (Tr.runT ls ls.length).1.getD (o.getD r 0) 0 = if wt ls (o.getD r 0) k = 0 then -1 else (k : Int) := by
    intro r hr
    have := hout r (by rw [ho.len]; exact hr)
    rw [← hod r hr] at this
    obtain ⟨_, _, h⟩ := this
    rw [← htk r (by omega)] at h
    rcases h with ⟨h0, _⟩ | ⟨h0, k, hk⟩
    · exact ⟨0, fun q => absurd h0 q⟩
    · exact ⟨k, fun _ => hk⟩
  obtain ⟨kk, hkk⟩ := Classical.skolem.1 (fun r => show ∃ k, r < ls.length → r ≠ 0 → k ∈ o.take r ∧ (∀ i', i' < ls.length → i' ∉ o.take r → ∀ k', k' ∈ o.take r → wt ls i' k' ≤ wt ls (o.getD r 0) k) ∧ (Tr.runT ls ls.length).1.getD (o.getD r 0) 0 = if wt ls (o.getD r 0) k = 0 then -1 else (k : Int) from by
    by_cases hr : r < ls.length
    · obtain ⟨k, hk⟩ := hstep r hr; exact ⟨k, fun _ => hk⟩
    · exact ⟨0, fun h => absurd h hr⟩)
  -- the weights
  obtain ⟨wA, hwA⟩ : ∃ wA : Nat → Nat, wA = fun x => if pos A x = 0 then 0 else pc (x &&& ls.getD (kk (pos A x)) 0) := ⟨_, rfl⟩
  obtain ⟨wB, hwB⟩ : ∃ wB : Nat → Nat, wB = fun x => pc (x &&& U (L.take (pos L x))) := ⟨_, rfl⟩
  have hAr : ∀ r (hr : r < ls.length), A[r]'(by rw [hAl]; exact hr) = ls.getD (o.getD r 0) 0 := by
    intro r hr
    rw [← hAg r hr]
    simp [List.getD_eq_getElem?_getD, hAl, hr]
  have hlsB : L.length = ls.length := ((List.perm_ext_iff_of_nodup hL hnd).2 hLs).length_eq
  have hmemU : ∀ r, r < ls.length → r ≠ 0 → ∀ x, (ls.getD (kk r) 0).testBit x = true → (U (A.take r)).testBit x = true := by
    intro r hr h0 x hx
    obtain ⟨h1, _, _⟩ := hkk r hr h0
    rw [U_bit, hAt r (by omega)]
    exact ⟨_, List.mem_map.2 ⟨kk r, h1, rfl⟩, hx⟩
  have hsum : (L.map wB).sum ≤ (A.map wA).sum := by
    refine tree_sum (w := fun x y => pc (x &&& y)) hAnd hL (fun x => (hAm x).trans (hLs x).symm) (fun x y => by rw [Nat.and_comm]) ?_ ?_ ?_ ?_
    · intro r hr h0 x hx hxn y hy
      have hr' : r < ls.length := by rw [← hAl]; exact hr
      have hp : pos A A[r] = r := np_pos hAnd hr
      rw [hwA]
      simp only [hp]
      rw [if_neg (by omega), hAr r hr']
      obtain ⟨h1, h2, _⟩ := hkk r hr' (by omega)
      rw [hA, List.mem_map] at hx
      obtain ⟨i', hi', rfl⟩ := hx
      rw [hAt r (by omega), List.mem_map] at hy
      obtain ⟨k', hk', rfl⟩ := hy
      refine h2 i' (ho.lt i' hi') (fun q => hxn ?_) k' hk'
      rw [hAt r (by omega)]
      exact List.mem_map.2 ⟨i', q, rfl⟩
    · intro r hr
      have hp : pos L L[r] = r := np_pos hL hr
      rw [hwB]
      simp only [hp]
      by_cases h0 : r = 0
      · left
        subst h0
        simp [U, pc, mem]
      · right
        obtain ⟨k, hk, hk2⟩ := hR r hr (by omega)
        refine ⟨L[k], List.mem_take_iff_getElem.2 ⟨k, by omega, rfl⟩, ?_⟩
        congr 1
        apply bits_ext
        intro x
        rw [Nat.testBit_and, Nat.testBit_and, Bool.and_eq_true, Bool.and_eq_true, U_bit]
        constructor
        · rintro ⟨h1, m, hm, h2⟩
          obtain ⟨j, hj, rfl⟩ := List.mem_take_iff_getElem.1 hm
          exact ⟨h1, hk2 x h1 ⟨j, by omega, h2⟩⟩
        · rintro ⟨h1, h2⟩
          exact ⟨h1, L[k], List.mem_take_iff_getElem.2 ⟨k, by omega, rfl⟩, h2⟩
    · intro x _
      rw [hwA]
      simp only
      split
      · omega
      · exact pc_le _
    · intro x _
      rw [hwB]
      exact pc_le _
  have e1 : (L.map wB).sum = ito L L.length := by
    have := sumTo_list wB L L.length (Nat.le_refl _)
    rw [List.take_length] at this
    rw [← this, ito_sumTo]
    apply sumTo_congr
    intro q hq
    have hp : pos L L[q] = q := np_pos hL hq
    have hg : L.getD q 0 = L[q] := by simp [List.getD_eq_getElem?_getD, hq]
    rw [hg, hwB]
    simp only [hp]
  have e2 : ito L L.length = ito A A.length := ito_perm ((List.perm_ext_iff_of_nodup hL hAnd).2 fun x => (hLs x).trans (hAm x).symm)
  have e3 : (A.map wA).sum = sumTo (fun q => wA (A.getD q 0)) A.length := by
    have := sumTo_list wA A A.length (Nat.le_refl _)
    rw [List.take_length] at this
    rw [← this]
  rw [e1, e2, e3, ito_sumTo] at hsum
  have hterm : ∀ q, q < A.length → wA (A.getD q 0) ≤ pc (A.getD q 0 &&& U (A.take q)) := by
    intro q hq
    have hq' : q < ls.length := by rw [← hAl]; exact hq
    have hp : pos A A[q] = q := np_pos hAnd hq
    have hg : A.getD q 0 = A[q] := by simp [List.getD_eq_getElem?_getD, hq]
    rw [hg, hwA]
    simp only [hp]
    split
    · omega
    · rename_i h0
      apply pc_sub
      intro x hx
      rw [Nat.testBit_and, Bool.and_eq_true] at hx ⊢
      exact ⟨hx.1, hmemU q hq' h0 x hx.2⟩
  have heq := sumTo_eq _ _ A.length hterm hsum
  intro r hr v hv ⟨j, hj, hjv⟩
  have h0 : r ≠ 0 := fun e => by subst e; simp at hj
  have hrA : r < A.length := by rw [hAl]; exact hr
  have hp : pos A A[r] = r := np_pos hAnd hrA
  have hg : A.getD r 0 = A[r] := by simp [List.getD_eq_getElem?_getD, hrA]
  have he := heq r hrA
  rw [hg, hwA] at he
  simp only [hp] at he
  rw [if_neg h0, hAr r hr] at he
  have hin : ls.getD (o.getD r 0) 0 ∈ ls := by
    rw [← hAr r hr]
    exact (hAm _).1 (List.getElem_mem _)
  have hv64 : v < 64 := by
    apply Classical.byContradiction
    intro q
    rw [Nat.testBit_lt_two_pow (Nat.lt_of_lt_of_le (hb _ hin) (Nat.pow_le_pow_right (n := 2) (by decide) (show 64 ≤ v by omega)))] at hv
    cases hv
  have hvU : (U (A.take r)).testBit v = true := by
    rw [U_bit, hAt r (by omega)]
    exact ⟨_, List.mem_map.2 ⟨j, hj, rfl⟩, hjv⟩
  have hvk := pc_eq_sub (x := ls.getD (o.getD r 0) 0 &&& ls.getD (kk r) 0) (y := ls.getD (o.getD r 0) 0 &&& U (A.take r)) (fun x hx => by
    rw [Nat.testBit_and, Bool.and_eq_true] at hx ⊢
    exact ⟨hx.1, hmemU r hr h0 x hx.2⟩) he v hv64 (by rw [Nat.testBit_and, Bool.and_eq_true]; exact ⟨hv, hvU⟩)
  obtain ⟨h1, _, h3⟩ := hkk r hr h0
  have hw : wt ls (o.getD r 0) (kk r) ≠ 0 := by
    intro e
    have : mem (ls.getD (o.getD r 0) 0 &&& ls.getD (kk r) 0) = [] := List.length_eq_zero_iff.1 e
    have hm : v ∈ mem (ls.getD (o.getD r 0) 0 &&& ls.getD (kk r) 0) := mem_mem.2 ⟨hv64, hvk⟩
    rw [this] at hm
    cases hm
  rw [if_neg hw] at h3
  rw [Nat.testBit_and, Bool.and_eq_true] at hvk
  exact ⟨kk r, h1, h3, hvk.2⟩
/-- Conversely the parent was taken in before. -/
theorem prim_par (ls : List Nat) : ∀ r, r < ls.length → (Tr.runT ls ls.length).1.getD ((insL ls ls.length).getD r 0) 0 = -1 ∨ ∃ k, k ∈ (insL ls ls.length).take r ∧ (Tr.runT ls ls.length).1.getD ((insL ls ls.length).getD r 0) 0 = (k : Int) := by
  intro r hr
  have ho := ins_ord ls
  have := outs ls ls.length (Nat.le_refl _) r (by rw [ho.len]; exact hr)
  have hod : (insL ls ls.length).getD r 0 = (insL ls ls.length)[r]'(by rw [ho.len]; exact hr) := by
    rw [List.getD_eq_getElem?_getD, List.getElem?_eq_getElem (by rw [ho.len]; exact hr)]
    rfl
  rw [← hod] at this
  obtain ⟨_, _, h⟩ := this
  rw [← ins_take' ls r (by omega)] at h
  rcases h with ⟨_, h⟩ | ⟨_, k, hk, _, h⟩
  · exact .inl h
  · by_cases q : wt ls ((insL ls ls.length).getD r 0) k = 0
    · rw [if_pos q] at h; exact .inl h
    · rw [if_neg q] at h; exact .inr ⟨k, hk, h⟩
end Go.Proofs.YtkkfoonaobehaaaDoor.ChT4
