import Derived.Test.YtkkfoonaobehaaaDoorRTr
import Derived.Test.YtkkfoonaobehaaaDoorChT1
import Derived.Test.YtkkfoonaobehaaaDoorChT2
import Derived.Test.YtkkfoonaobehaaaDoorChD
namespace Go.Proofs.YtkkfoonaobehaaaDoor.ChT3
open Go.Proofs.YtkkfoonaobehaaaDoor.Bits Go.Proofs.YtkkfoonaobehaaaDoor.Low Go.Proofs.YtkkfoonaobehaaaDoor.Search Go.Proofs.YtkkfoonaobehaaaDoor.Tr Go.Proofs.YtkkfoonaobehaaaDoor.GrP Go.Proofs.YtkkfoonaobehaaaDoor.ChA Go.Proofs.YtkkfoonaobehaaaDoor.ChB Go.Proofs.YtkkfoonaobehaaaDoor.ChC Go.Proofs.YtkkfoonaobehaaaDoor.ChD Go.Proofs.YtkkfoonaobehaaaDoor.ChT1 Go.Proofs.YtkkfoonaobehaaaDoor.ChT2
set_option linter.unusedVariables false
set_option linter.unusedSimpArgs false
section
variable (ls : List Nat)
/-- What two of the sets share. -/
def wt (i k : Nat) : Nat := pc (ls.getD i 0 &&& ls.getD k 0)
theorem rowTo_max (inn : List Bool) (i : Nat) (b : Int × Int × Int) : ∀ k, b.2.2 ≤ (rowTo ls inn i b k).2.2 ∧ (∀ q, q < k → inn.getD q false = true → (wt ls i q : Int) ≤ (rowTo ls inn i b k).2.2) ∧ (rowTo ls inn i b k = b ∨ ∃ q, q < k ∧ inn.getD q false = true ∧ rowTo ls inn i b k = ((i : Int), (q : Int), (wt ls i q : Int)))
  | 0 => ⟨Int.le_refl _, fun q h => by omega, .inl rfl⟩
  | k + 1 => by
    obtain ⟨h1, h2, h3⟩ := rowTo_max inn i b k
    rw [rowTo]
    unfold consider
    by_cases h : inn.getD k false = true ∧ (rowTo ls inn i b k).2.2 < (pc (ls.getD i 0 &&& ls.getD k 0) : Int)
    · rw [if_pos h]
      refine ⟨by simp only; omega, fun q hq hi => ?_, .inr ⟨k, by omega, h.1, rfl⟩⟩
      by_cases e : q = k
      · subst e; exact Int.le_refl _
      · have := h2 q (by omega) hi
        simp only
        omega
    · rw [if_neg h]
      refine ⟨h1, fun q hq hi => ?_, ?_⟩
      · by_cases e : q = k
        · subst e
          apply Classical.byContradiction
          intro hh
          exact h ⟨hi, by unfold wt at hh; omega⟩
        · exact h2 q (by omega) hi
      · rcases h3 with h3 | ⟨q, hq, h4⟩
        · exact .inl h3
        · exact .inr ⟨q, by omega, h4⟩
theorem scanTo_max (inn : List Bool) (step : Nat) (hs : step ≠ 0) : ∀ i, (∀ i', i' < i → inn.getD i' false = false → ∀ q, q < ls.length → inn.getD q false = true → (wt ls i' q : Int) ≤ (scanTo ls inn step i).2.2) ∧ (scanTo ls inn step i = (0, -1, -1) ∨ ∃ i', i' < i ∧ inn.getD i' false = false ∧ ∃ q, q < ls.length ∧ inn.getD q false = true ∧ scanTo ls inn step i = ((i' : Int), (q : Int), (wt ls i' q : Int)))
  | 0 => ⟨fun i h => by omega, .inl rfl⟩
  | i + 1 => by
    obtain ⟨h1, h2⟩ := scanTo_max inn step hs i
    rw [scanTo]
    by_cases h : inn.getD i false = true ∨ step = 0
    · rw [if_pos h]
      refine ⟨fun i' hi' hf => ?_, ?_⟩
      · by_cases e : i' = i
        · subst e
          rcases h with h | h
          · rw [h] at hf; cases hf
          · exact absurd h hs
        · exact h1 i' (by omega) hf
      · rcases h2 with h2 | ⟨i', hi', h4⟩
        · exact .inl h2
        · exact .inr ⟨i', by omega, h4⟩
    · rw [if_neg h]
      have hif : inn.getD i false = false := by
        cases e : inn.getD i false
        · rfl
        · exact absurd (.inl e) h
      obtain ⟨r1, r2, r3⟩ := rowTo_max ls inn i (scanTo ls inn step i) ls.length
      refine ⟨fun i' hi' hf q hq hiq => ?_, ?_⟩
      · by_cases e : i' = i
        · subst e; exact r2 q hq hiq
        · have := h1 i' (by omega) hf q hq hiq
          omega
      · rcases r3 with r3 | ⟨q, hq, hiq, e⟩
        · rw [r3]
          rcases h2 with h2 | ⟨i', hi', h4⟩
          · exact .inl h2
          · exact .inr ⟨i', by omega, h4⟩
        · exact .inr ⟨i, by omega, hif, q, hq, hiq, e⟩
/-- The order in which the sets are taken in. -/
def insL : Nat → List Nat
  | 0 => []
  | r + 1 => insL r ++ [(scanTo ls (Tr.runT ls r).2 r ls.length).1.toNat]
structure PInv (r : Nat) : Prop where
  len : (insL ls r).length = r
  inn : ∀ i, i < ls.length → ((Tr.runT ls r).2.getD i false = true ↔ i ∈ insL ls r)
  lt : ∀ i ∈ insL ls r, i < ls.length
  nd : (insL ls r).Nodup
/-- What one step takes. -/
def Step (r i : Nat) (p : Int) : Prop := i < ls.length ∧ i ∉ insL ls r ∧ ((r = 0 ∧ p = -1) ∨ (r ≠ 0 ∧ ∃ k, k ∈ insL ls r ∧ (∀ i', i' < ls.length → i' ∉ insL ls r → ∀ k', k' ∈ insL ls r → wt ls i' k' ≤ wt ls i k) ∧ p = if wt ls i k = 0 then -1 else (k : Int)))
theorem step_ok {r : Nat} (hr : r < ls.length) (h : PInv ls r) : ∃ i : Nat, (scanTo ls (Tr.runT ls r).2 r ls.length).1 = (i : Int) ∧ Step ls r i (par (scanTo ls (Tr.runT ls r).2 r ls.length)) := by
  have hinn : ∀ i, i < ls.length → ((Tr.runT ls r).2.getD i false = false ↔ i ∉ insL ls r) := by
    intro i hi
    have := h.inn i hi
    rw [← Bool.not_eq_true, this]
  by_cases h0 : r = 0
  · subst h0
    refine ⟨0, ?_, hr, by simp [insL], .inl ⟨rfl, ?_⟩⟩
    · rw [RTr.scanTo_first]; rfl
    · rw [RTr.scanTo_first]; rfl
  · obtain ⟨s1, s2⟩ := scanTo_max ls (Tr.runT ls r).2 r h0 ls.length
    obtain ⟨x, hx, hxn⟩ := pigeon ls.length (insL ls r) (by rw [h.len]; exact hr)
    have hy : ∃ y, y ∈ insL ls r := by
      have : 0 < (insL ls r).length := by rw [h.len]; omega
      exact ⟨_, List.getElem_mem this⟩
    obtain ⟨y, hy⟩ := hy
    have hyl := h.lt y hy
    rcases s2 with s2 | ⟨i, hi, hif, k, hk, hki, e⟩
    · have := s1 x hx ((hinn x hx).2 hxn) y hyl ((h.inn y hyl).2 hy)
      rw [s2] at this
      simp only at this
      omega
    · refine ⟨i, by rw [e], hi, (hinn i hi).1 hif, .inr ⟨h0, k, (h.inn k hk).1 hki, fun i' hi' hn' k' hk' => ?_, ?_⟩⟩
      · have hkl := h.lt k' hk'
        have := s1 i' hi' ((hinn i' hi').2 hn') k' hkl ((h.inn k' hkl).2 hk')
        rw [e] at this
        simp only at this
        omega
      · rw [e, Tr.par]
        simp only
        by_cases q : wt ls i k = 0
        · rw [if_pos q, if_pos (by omega)]
        · rw [if_neg q, if_neg (by omega)]
theorem pinv : ∀ r, r ≤ ls.length → PInv ls r
  | 0, _ => ⟨rfl, fun i hi => by simp [Tr.runT, insL, List.getD_eq_getElem?_getD, hi], fun i hi => by simp [insL] at hi, by simp [insL]⟩
  | r + 1, hr => by
    have h := pinv r (by omega)
    obtain ⟨i, hi, hil, hin, _⟩ := step_ok ls (by omega) h
    have e1 : insL ls (r + 1) = insL ls r ++ [i] := by rw [insL, hi, Int.toNat_natCast]
    have e2 : (Tr.runT ls (r + 1)).2 = (Tr.runT ls r).2.set i true := by simp only [Tr.runT, Tr.stepT, hi, Int.toNat_natCast]
    refine ⟨by rw [e1]; simp [h.len], fun j hj => ?_, fun j hj => ?_, ?_⟩
    · rw [e1, e2, List.mem_append, List.mem_singleton, ← h.inn j hj]
      have hl := (runT_len ls r).2
      by_cases q : i = j
      · subst q
        simp [List.getD_eq_getElem?_getD, List.getElem?_set, hl, hj]
      · have : ¬ j = i := fun e => q e.symm
        simp [List.getD_eq_getElem?_getD, List.getElem?_set, q, this]
    · rw [e1] at hj
      rcases List.mem_append.1 hj with hj | hj
      · exact h.lt j hj
      · rw [List.mem_singleton.1 hj]; exact hil
    · rw [e1, List.nodup_append]
      exact ⟨h.nd, by simp, fun a ha b hb => by rw [List.mem_singleton.1 hb]; exact fun e => hin (e ▸ ha)⟩
theorem ins_take : ∀ d r, r + d ≤ ls.length → (insL ls (r + d)).take r = insL ls r
  | 0, r, h => by rw [Nat.add_zero, List.take_of_length_le (by rw [(pinv ls r (by omega)).len]; exact Nat.le_refl _)]
  | d + 1, r, h => by
    have e : r + (d + 1) = (r + d) + 1 := by omega
    rw [e, insL, List.take_append_of_le_length (by rw [(pinv ls (r + d) (by omega)).len]; omega)]
    exact ins_take d r (by omega)
/-- What the row of parents holds. -/
theorem outs : ∀ r, r ≤ ls.length → ∀ q (hq : q < (insL ls r).length), Step ls q ((insL ls r)[q]) ((Tr.runT ls r).1.getD ((insL ls r)[q]) 0)
  | 0, _ => fun q hq => by simp [insL] at hq
  | r + 1, hr => by
    intro q hq
    have h := pinv ls r (by omega)
    obtain ⟨i, hi, hst⟩ := step_ok ls (by omega) h
    have e1 : insL ls (r + 1) = insL ls r ++ [i] := by rw [insL, hi, Int.toNat_natCast]
    have e2 : (Tr.runT ls (r + 1)).1 = (Tr.runT ls r).1.set i (par (scanTo ls (Tr.runT ls r).2 r ls.length)) := by simp only [Tr.runT, Tr.stepT, hi, Int.toNat_natCast]
    have hq' := hq
    rw [e1, List.length_append, List.length_singleton] at hq'
    have hl := (runT_len ls r).1
    by_cases hqr : q < (insL ls r).length
    · have ih := outs r (by omega) q hqr
      have e3 : (insL ls (r + 1))[q] = (insL ls r)[q] := by simp only [e1]; exact List.getElem_append_left hqr
      rw [e3, e2]
      have hne : i ≠ (insL ls r)[q] := fun e => hst.2.1 (by rw [e]; exact List.getElem_mem hqr)
      have e4 : ((Tr.runT ls r).1.set i (par (scanTo ls (Tr.runT ls r).2 r ls.length))).getD ((insL ls r)[q]) 0 = (Tr.runT ls r).1.getD ((insL ls r)[q]) 0 := by
        simp [List.getD_eq_getElem?_getD, List.getElem?_set, hne]
      rw [e4]
      exact ih
    · obtain rfl : q = r := by rw [h.len] at hq' hqr; omega
      have e3 : (insL ls (q + 1))[q] = i := by
        simp only [e1]
        rw [List.getElem_append_right (by rw [h.len]; exact Nat.le_refl _)]
        simp [h.len]
      rw [e3, e2]
      have e4 : ((Tr.runT ls q).1.set i (par (scanTo ls (Tr.runT ls q).2 q ls.length))).getD i 0 = par (scanTo ls (Tr.runT ls q).2 q ls.length) := by
        simp [List.getD_eq_getElem?_getD, List.getElem?_set, hl, hst.1]
      rw [e4]
      exact hst
end
/-! What the law asks of the tree. -/
def setsTo (C : List (List Int)) (v : Int) : Nat → Nat
  | 0 => 0
  | i + 1 => setsTo C v i + if hasB (C.getD i []) v = true then 1 else 0
def linkB (C : List (List Int)) (t : List Int) (v : Int) (i : Nat) : Bool := hasB (C.getD i []) v && (decide (0 ≤ t.getD i 0) && hasB (C.getD (t.getD i 0).toNat []) v)
def linksTo (C : List (List Int)) (t : List Int) (v : Int) : Nat → Nat
  | 0 => 0
  | i + 1 => linksTo C t v i + if linkB C t v i = true then 1 else 0
structure TreeOK (m : Nat) (C : List (List Int)) (t : List Int) : Prop where
  len : t.length = C.length
  rng : ∀ i, i < C.length → -1 ≤ t.getD i 0 ∧ t.getD i 0 < C.length ∧ t.getD i 0 ≠ i
  cnt : ∀ v : Nat, v < m → 1 ≤ setsTo C v C.length ∧ linksTo C t v C.length + 1 = setsTo C v C.length
theorem count_but (C : List (List Int)) (t : List Int) (v : Int) (i0 : Nat) (h0 : hasB (C.getD i0 []) v = true) (h : ∀ i, i < C.length → (linkB C t v i = true ↔ hasB (C.getD i []) v = true ∧ i ≠ i0)) : ∀ k, k ≤ C.length → (i0 < k → linksTo C t v k + 1 = setsTo C v k) ∧ (k ≤ i0 → linksTo C t v k = setsTo C v k)
  | 0, _ => ⟨fun h => by omega, fun _ => rfl⟩
  | k + 1, hk => by
    obtain ⟨h1, h2⟩ := count_but C t v i0 h0 h k (by omega)
    have hh := h k (by omega)
    rw [linksTo, setsTo]
    constructor
    · intro hlt
      by_cases e : i0 = k
      · subst e
        have e1 : ¬ linkB C t v i0 = true := fun q => (hh.1 q).2 rfl
        rw [if_neg e1, if_pos h0, h2 (Nat.le_refl _)]
      · have := h1 (by omega)
        by_cases q : hasB (C.getD k []) v = true
        · rw [if_pos (hh.2 ⟨q, fun z => e z.symm⟩), if_pos q]; omega
        · rw [if_neg (fun z => q (hh.1 z).1), if_neg q]; omega
    · intro hle
      have := h2 (by omega)
      by_cases q : hasB (C.getD k []) v = true
      · rw [if_pos (hh.2 ⟨q, by omega⟩), if_pos q]; omega
      · rw [if_neg (fun z => q (hh.1 z).1), if_neg q]; omega
def sumTo (f : Nat → Nat) : Nat → Nat
  | 0 => 0
  | r + 1 => sumTo f r + f r
theorem sumTo_eq (f g : Nat → Nat) : ∀ r, (∀ q, q < r → f q ≤ g q) → sumTo g r ≤ sumTo f r → ∀ q, q < r → f q = g q
  | 0, _, _, q, hq => by omega
  | r + 1, h, hs, q, hq => by
    have hle : ∀ r, (∀ q, q < r → f q ≤ g q) → sumTo f r ≤ sumTo g r := by
      intro r
      induction r with
      | zero => intro _; exact Nat.le_refl _
      | succ r ih =>
        intro h
        have := ih (fun q hq => h q (by omega))
        have := h r (by omega)
        simp only [sumTo]
        omega
    have h1 := hle r (fun q hq => h q (by omega))
    have h2 := h r (by omega)
    simp only [sumTo] at hs
    by_cases e : q = r
    · subst e; omega
    · exact sumTo_eq f g r (fun q hq => h q (by omega)) (by omega) q (by omega)
theorem sumTo_list (F : Nat → Nat) (l : List Nat) : ∀ r, r ≤ l.length → sumTo (fun q => F (l.getD q 0)) r = ((l.take r).map F).sum
  | 0, _ => by simp [sumTo]
  | r + 1, h => by
    rw [sumTo, sumTo_list F l r (by omega), take_snoc l r h, List.map_append, List.sum_append]
    simp
theorem ito_sumTo (l : List Nat) : ∀ r, ito l r = sumTo (fun q => pc (l.getD q 0 &&& U (l.take q))) r
  | 0 => rfl
  | r + 1 => by rw [ito, sumTo, ito_sumTo l r]
theorem sumTo_congr {f g : Nat → Nat} : ∀ r, (∀ q, q < r → f q = g q) → sumTo f r = sumTo g r
  | 0, _ => rfl
  | r + 1, h => by rw [sumTo, sumTo, sumTo_congr r (fun q hq => h q (by omega)), h r (by omega)]
end Go.Proofs.YtkkfoonaobehaaaDoor.ChT3
