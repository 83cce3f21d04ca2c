import Derived.Test.YtkkfoonaobehaaaDoorChC
namespace Go.Proofs.YtkkfoonaobehaaaDoor.ChT2
open Go.Proofs.YtkkfoonaobehaaaDoor.Bits Go.Proofs.YtkkfoonaobehaaaDoor.Search Go.Proofs.YtkkfoonaobehaaaDoor.GrP Go.Proofs.YtkkfoonaobehaaaDoor.ChA Go.Proofs.YtkkfoonaobehaaaDoor.ChB Go.Proofs.YtkkfoonaobehaaaDoor.ChC
set_option linter.unusedVariables false
set_option linter.unusedSimpArgs false
/-- A row of cliques of the r first vertices, in which what a clique shares with those before it lies in one of those. -/
structure Jun (f K : Nat → Nat) (o : List Nat) (r : Nat) (L : List Nat) : Prop where
  of : ∀ m ∈ L, ∃ v ∈ o.take r, m = K v
  cov : ∀ v ∈ o.take r, ∃ m ∈ L, Sub (K v) m
  anti : ∀ i j (hi : i < L.length) (hj : j < L.length), i ≠ j → ¬ Sub L[i] L[j]
  rip : ∀ i (hi : i < L.length), 0 < i → ∃ k, ∃ hk : k < i, ∀ x, L[i].testBit x = true → (∃ j, ∃ hj : j < i, (L[j]'(by omega)).testBit x = true) → (L[k]'(by omega)).testBit x = true
section
variable {n : Nat} {f K : Nat → Nat} {o : List Nat}
theorem jun_step (hn : n ≤ 64) (g : Gr n f) (ho : Ord n o) (hp : Perf (Vn n) (Ad f) (pos o)) (hK : IsK n f (pos o) K) {r : Nat} (hr : r < n) {L : List Nat} (h : Jun f K o r L) : ∃ L', Jun f K o (r + 1) L' := by
  have hrl : r < o.length := by rw [ho.len]; exact hr
  obtain ⟨u, hu⟩ : ∃ u, u = o[r] := ⟨_, rfl⟩
  have hun : u < n := by rw [hu]; exact ho.lt _ (List.getElem_mem hrl)
  have hpu : pos o u = r := by rw [hu]; exact ho.pos_get hrl
  have htk : ∀ v, v ∈ o.take (r + 1) ↔ v ∈ o.take r ∨ v = u := by
    intro v
    rw [List.take_succ_eq_append_getElem hrl, List.mem_append, List.mem_singleton, hu]
  have hlt : ∀ v ∈ o.take r, v < n ∧ pos o v < r := by
    intro v hv
    have hvn := ho.lt v (List.mem_of_mem_take hv)
    exact ⟨hvn, (ho.take hvn).1 hv⟩
  have hKlt : ∀ v ∈ o.take r, ∀ x, (K v).testBit x = true → x < n ∧ pos o x < r := by
    intro v hv x hx
    obtain ⟨h1, h2⟩ := hlt v hv
    rcases (hK v h1 x).1 hx with rfl | ⟨h3, h4⟩
    · exact ⟨h1, h2⟩
    · exact ⟨(g.lt v x h3).2, by omega⟩
  have hnu : ∀ m ∈ L, m.testBit u = false := by
    intro m hm
    obtain ⟨v, hv, rfl⟩ := h.of m hm
    apply Classical.byContradiction
    intro q
    have := (hKlt v hv u (by simpa using q)).2
    omega
  have hKu : ∀ x, (K u).testBit x = true → x ≠ u → x < n ∧ pos o x < r ∧ Ad f u x := by
    intro x hx hxu
    rcases (hK u hun x).1 hx with e | ⟨h3, h4⟩
    · exact absurd e hxu
    · exact ⟨(g.lt u x h3).2, by omega, h3⟩
  have huu : (K u).testBit u = true := (hK u hun u).2 (.inl rfl)
  have hself : ∀ m ∈ L, ∃ v, v ≠ u ∧ m.testBit v = true := by
    intro m hm
    obtain ⟨v, hv, rfl⟩ := h.of m hm
    obtain ⟨h1, h2⟩ := hlt v hv
    exact ⟨v, fun e => by rw [e] at h2; omega, (hK v h1 v).2 (.inl rfl)⟩
  have hget : ∀ i (hi : i < L.length), L[i] ∈ L := fun i hi => List.getElem_mem hi
  by_cases hemp : ∃ x, (K u).testBit x = true ∧ x ≠ u
  · -- the earlier neighbors are a clique: it lies in one of the row
    obtain ⟨b, hb, hbm, hsub⟩ := clq_cover ho.inj hK (fun x => (K u).testBit x = true ∧ x ≠ u) (fun x hx => (hKu x hx.1 hx.2).1) hemp
      (fun a c ha hc hac => K_clq g hp hK hun a c ha.1 hc.1 hac)
    have hbt : b ∈ o.take r := (ho.take hb).2 (hKu b hbm.1 hbm.2).2.1
    obtain ⟨m, hm, hbs⟩ := h.cov b hbt
    obtain ⟨i0, hi0, rfl⟩ := List.getElem_of_mem hm
    have hB : ∀ x, (K u).testBit x = true → x ≠ u → L[i0].testBit x = true := fun x h1 h2 => hbs x (hsub x ⟨h1, h2⟩)
    by_cases heq : ∀ x, L[i0].testBit x = true → (K u).testBit x = true
    · -- it is one of the row: the vertex is added to it
      refine ⟨L.set i0 (K u), ⟨?_, ?_, ?_, ?_⟩⟩
      · intro m hm
        rcases List.mem_or_eq_of_mem_set hm with hm | rfl
        · obtain ⟨v, hv, e⟩ := h.of m hm
          exact ⟨v, (htk v).2 (.inl hv), e⟩
        · exact ⟨u, (htk u).2 (.inr rfl), rfl⟩
      · intro v hv
        rcases (htk v).1 hv with hv | rfl
        · obtain ⟨m, hm, hs⟩ := h.cov v hv
          obtain ⟨i, hi, rfl⟩ := List.getElem_of_mem hm
          by_cases e : i = i0
          · subst e
            exact ⟨K u, List.mem_set hi _, fun x hx => heq x (hs x hx)⟩
          · refine ⟨L[i], ?_, hs⟩
            rw [List.mem_iff_getElem]
            exact ⟨i, by simpa using hi, by rw [List.getElem_set_ne (fun q => e q.symm)]⟩
        · exact ⟨K v, List.mem_set hi0 _, fun _ hx => hx⟩
      · intro i j hi hj hij
        have hi' : i < L.length := by simpa using hi
        have hj' : j < L.length := by simpa using hj
        by_cases ei : i = i0
        · subst ei
          rw [List.getElem_set_self, List.getElem_set_ne (fun q => hij (by omega))]
          intro hs
          have := hs u huu
          rw [hnu _ (hget j hj')] at this
          cases this
        · rw [List.getElem_set_ne (fun q => ei q.symm)]
          by_cases ej : j = i0
          · subst ej
            rw [List.getElem_set_self]
            intro hs
            refine h.anti i j hi' hj' hij (fun x hx => hB x (hs x hx) (fun e => ?_))
            rw [e, hnu _ (hget i hi')] at hx
            cases hx
          · rw [List.getElem_set_ne (fun q => ej q.symm)]
            exact h.anti i j hi' hj' hij
      · intro i hi h0
        have hi' : i < L.length := by simpa using hi
        obtain ⟨k, hk, hrip⟩ := h.rip i hi' h0
        refine ⟨k, hk, fun x hx hjx => ?_⟩
        obtain ⟨j, hj, hjb⟩ := hjx
        have hxu : x ≠ u := by
          intro e
          subst e
          by_cases ei : i = i0
          · rw [List.getElem_set_ne (by omega), hnu _ (hget j (by omega))] at hjb
            cases hjb
          · rw [List.getElem_set_ne (fun q => ei q.symm), hnu _ (hget i hi')] at hx
            cases hx
        have back : ∀ q (hq : q < L.length), ((L.set i0 (K u))[q]'(by simpa using hq)).testBit x = true → L[q].testBit x = true := by
          intro q hq hb'
          by_cases e : q = i0
          · subst e
            rw [List.getElem_set_self] at hb'
            exact hB x hb' hxu
          · rwa [List.getElem_set_ne (fun z => e z.symm)] at hb'
        have hL := hrip x (back i hi' hx) ⟨j, hj, back j (by omega) hjb⟩
        by_cases e : k = i0
        · subst e
          rw [List.getElem_set_self]
          exact heq x hL
        · rw [List.getElem_set_ne (fun z => e z.symm)]
          exact hL
    · -- a new clique, behind the row
      refine ⟨L ++ [K u], ⟨?_, ?_, ?_, ?_⟩⟩
      · intro m hm
        rcases List.mem_append.1 hm with hm | hm
        · obtain ⟨v, hv, e⟩ := h.of m hm
          exact ⟨v, (htk v).2 (.inl hv), e⟩
        · exact ⟨u, (htk u).2 (.inr rfl), by simpa using hm⟩
      · intro v hv
        rcases (htk v).1 hv with hv | rfl
        · obtain ⟨m, hm, hs⟩ := h.cov v hv
          exact ⟨m, by simp [hm], hs⟩
        · exact ⟨K v, by simp, fun _ hx => hx⟩
      · intro i j hi hj hij
        rw [List.length_append, List.length_singleton] at hi hj
        by_cases ei : i < L.length
        · rw [List.getElem_append_left ei]
          by_cases ej : j < L.length
          · rw [List.getElem_append_left ej]
            exact h.anti i j ei ej hij
          · obtain rfl : j = L.length := by omega
            simp only [List.getElem_append_right (Nat.le_refl _), Nat.sub_self, List.getElem_singleton]
            intro hs
            have hsb : Sub L[i] L[i0] := fun x hx => hB x (hs x hx) (fun e => by
              rw [e, hnu _ (hget i ei)] at hx
              cases hx)
            by_cases e0 : i = i0
            · subst e0
              exact heq hs
            · exact h.anti i i0 ei hi0 e0 hsb
        · obtain rfl : i = L.length := by omega
          have ej : j < L.length := by omega
          simp only [List.getElem_append_right (Nat.le_refl _), Nat.sub_self, List.getElem_singleton, List.getElem_append_left ej]
          intro hs
          have := hs u huu
          rw [hnu _ (hget j ej)] at this
          cases this
      · intro i hi h0
        rw [List.length_append, List.length_singleton] at hi
        by_cases ei : i < L.length
        · obtain ⟨k, hk, hrip⟩ := h.rip i ei h0
          refine ⟨k, hk, fun x hx hjx => ?_⟩
          rw [List.getElem_append_left ei] at hx
          obtain ⟨j, hj, hjb⟩ := hjx
          rw [List.getElem_append_left (by omega)] at hjb
          rw [List.getElem_append_left (by omega)]
          exact hrip x hx ⟨j, hj, hjb⟩
        · obtain rfl : i = L.length := by omega
          refine ⟨i0, hi0, fun x hx hjx => ?_⟩
          simp only [List.getElem_append_right (Nat.le_refl _), Nat.sub_self, List.getElem_singleton] at hx
          obtain ⟨j, hj, hjb⟩ := hjx
          rw [List.getElem_append_left hj] at hjb
          rw [List.getElem_append_left hi0]
          refine hB x hx (fun e => ?_)
          rw [e, hnu _ (hget j hj)] at hjb
          cases hjb
  · -- no earlier neighbor
    have honly : ∀ x, (K u).testBit x = true → x = u := fun x hx => by
      apply Classical.byContradiction
      intro q
      exact hemp ⟨x, hx, q⟩
    refine ⟨L ++ [K u], ⟨?_, ?_, ?_, ?_⟩⟩
    · intro m hm
      rcases List.mem_append.1 hm with hm | hm
      · obtain ⟨v, hv, e⟩ := h.of m hm
        exact ⟨v, (htk v).2 (.inl hv), e⟩
      · exact ⟨u, (htk u).2 (.inr rfl), by simpa using hm⟩
    · intro v hv
      rcases (htk v).1 hv with hv | rfl
      · obtain ⟨m, hm, hs⟩ := h.cov v hv
        exact ⟨m, by simp [hm], hs⟩
      · exact ⟨K v, by simp, fun _ hx => hx⟩
    · intro i j hi hj hij
      rw [List.length_append, List.length_singleton] at hi hj
      by_cases ei : i < L.length
      · rw [List.getElem_append_left ei]
        by_cases ej : j < L.length
        · rw [List.getElem_append_left ej]
          exact h.anti i j ei ej hij
        · obtain rfl : j = L.length := by omega
          simp only [List.getElem_append_right (Nat.le_refl _), Nat.sub_self, List.getElem_singleton]
          intro hs
          obtain ⟨v, hvu, hv⟩ := hself _ (hget i ei)
          exact hvu (honly v (hs v hv))
      · obtain rfl : i = L.length := by omega
        have ej : j < L.length := by omega
        simp only [List.getElem_append_right (Nat.le_refl _), Nat.sub_self, List.getElem_singleton, List.getElem_append_left ej]
        intro hs
        have := hs u huu
        rw [hnu _ (hget j ej)] at this
        cases this
    · intro i hi h0
      rw [List.length_append, List.length_singleton] at hi
      by_cases ei : i < L.length
      · obtain ⟨k, hk, hrip⟩ := h.rip i ei h0
        refine ⟨k, hk, fun x hx hjx => ?_⟩
        rw [List.getElem_append_left ei] at hx
        obtain ⟨j, hj, hjb⟩ := hjx
        rw [List.getElem_append_left (by omega)] at hjb
        rw [List.getElem_append_left (by omega)]
        exact hrip x hx ⟨j, hj, hjb⟩
      · obtain rfl : i = L.length := by omega
        refine ⟨0, h0, fun x hx hjx => ?_⟩
        simp only [List.getElem_append_right (Nat.le_refl _), Nat.sub_self, List.getElem_singleton] at hx
        obtain ⟨j, hj, hjb⟩ := hjx
        rw [List.getElem_append_left hj] at hjb
        rw [honly x hx, hnu _ (hget j hj)] at hjb
        cases hjb
theorem jun_ex (hn : n ≤ 64) (g : Gr n f) (ho : Ord n o) (hp : Perf (Vn n) (Ad f) (pos o)) (hK : IsK n f (pos o) K) : ∀ r, r ≤ n → ∃ L, Jun f K o r L
  | 0, _ => ⟨[], ⟨fun m hm => by simp at hm, fun v hv => by simp at hv, fun i j hi => by simp at hi, fun i hi => by simp at hi⟩⟩
  | r + 1, h => by
    obtain ⟨L, hL⟩ := jun_ex hn g ho hp hK r (by omega)
    exact jun_step hn g ho hp hK (by omega) hL
/-- The maximal cliques of a chordal graph, in a row in which each is joined to one before it. -/
theorem jun_all (hn : n ≤ 64) (g : Gr n f) (ho : Ord n o) (hp : Perf (Vn n) (Ad f) (pos o)) (hK : IsK n f (pos o) K) : ∃ L : List Nat, L.Nodup ∧ (∀ Q, Q ∈ L ↔ MaxQ n f Q) ∧
    ∀ i (hi : i < L.length), 0 < i → ∃ k, ∃ hk : k < i, ∀ x, L[i].testBit x = true → (∃ j, ∃ hj : j < i, (L[j]'(by omega)).testBit x = true) → (L[k]'(by omega)).testBit x = true := by
  obtain ⟨L, h⟩ := jun_ex hn g ho hp hK n (Nat.le_refl _)
  have htk : o.take n = o := List.take_of_length_le (by rw [ho.len]; exact Nat.le_refl _)
  have hof : ∀ m ∈ L, ∃ v, v < n ∧ m = K v := by
    intro m hm
    obtain ⟨v, hv, e⟩ := h.of m hm
    rw [htk] at hv
    exact ⟨v, ho.lt v hv, e⟩
  have hcov : ∀ v, v < n → ∃ m ∈ L, Sub (K v) m := fun v hv => h.cov v (by rw [htk]; exact ho.all hv)
  have hin : ∀ m ∈ L, ∀ m' ∈ L, Sub m m' → m = m' := by
    intro m hm m' hm' hs
    obtain ⟨i, hi, rfl⟩ := List.getElem_of_mem hm
    obtain ⟨j, hj, rfl⟩ := List.getElem_of_mem hm'
    by_cases e : i = j
    · subst e; rfl
    · exact absurd hs (h.anti i j hi hj e)
  refine ⟨L, ?_, ?_, h.rip⟩
  · show List.Pairwise (· ≠ ·) L
    rw [List.pairwise_iff_getElem]
    intro i j hi hj hij e
    exact h.anti i j hi hj (by omega) (fun x hx => by rw [← e]; exact hx)
  · intro Q
    rw [max_iff g ho.inj hp hK]
    constructor
    · intro hQ
      obtain ⟨v, hv, rfl⟩ := hof Q hQ
      refine ⟨v, hv, rfl, fun u hu hne hs => hne ?_⟩
      obtain ⟨m, hm, hum⟩ := hcov u hu
      have e := hin _ hQ m hm (fun x hx => hum x (hs x hx))
      exact K_inj hK hu hv (fun j => ⟨fun hj => by rw [e]; exact hum j hj, hs j⟩)
    · rintro ⟨v, hv, rfl, hm⟩
      obtain ⟨m, hmL, hs⟩ := hcov v hv
      obtain ⟨u, hu, rfl⟩ := hof m hmL
      by_cases e : u = v
      · subst e; exact hmL
      · exact absurd hs (hm u hu e)
end
end Go.Proofs.YtkkfoonaobehaaaDoor.ChT2
