import Derived.Test.YtkkfoonaobehaaaDoorChC
import Derived.Test.YtkkfoonaobehaaaDoorAdj
import Derived.Test.YtkkfoonaobehaaaDoorTr
namespace Go.Proofs.YtkkfoonaobehaaaDoor.ChD
open Go.Proofs.YtkkfoonaobehaaaDoor.Bits Go.Proofs.YtkkfoonaobehaaaDoor.Low Go.Proofs.YtkkfoonaobehaaaDoor.Sets Go.Proofs.YtkkfoonaobehaaaDoor.Cmp Go.Proofs.YtkkfoonaobehaaaDoor.Read Go.Proofs.YtkkfoonaobehaaaDoor.Search Go.Proofs.YtkkfoonaobehaaaDoor.Earl Go.Proofs.YtkkfoonaobehaaaDoor.Chord Go.Proofs.YtkkfoonaobehaaaDoor.Sort Go.Proofs.YtkkfoonaobehaaaDoor.Cl Go.Proofs.YtkkfoonaobehaaaDoor.GrP Go.Proofs.YtkkfoonaobehaaaDoor.ChA Go.Proofs.YtkkfoonaobehaaaDoor.ChB Go.Proofs.YtkkfoonaobehaaaDoor.ChC Go.Proofs.YtkkfoonaobehaaaDoor.Adj
set_option linter.unusedVariables false
set_option linter.unusedSimpArgs false
def hasB (xs : List Int) (x : Int) : Bool := decide (x ∈ xs)
theorem hasB_iff (xs : List Int) (x : Int) : hasB xs x = true ↔ x ∈ xs := by simp [hasB]
def allTo (m : Nat) (X : List (Int × Int)) (xs : List Int) (v : Int) : Nat → Bool
  | 0 => true
  | i + 1 => allTo m X xs v i && (xs.getD i 0 == v || adjB m X (xs.getD i 0) v)
theorem allTo_iff (m : Nat) (X : List (Int × Int)) (xs : List Int) (v : Int) : ∀ i, allTo m X xs v i = true ↔ ∀ q, q < i → xs.getD q 0 = v ∨ adjB m X (xs.getD q 0) v = true
  | 0 => by simp [allTo]
  | i + 1 => by
    rw [allTo, Bool.and_eq_true, allTo_iff m X xs v i, Bool.or_eq_true, beq_iff_eq]
    constructor
    · rintro ⟨h1, h2⟩ q hq
      by_cases e : q = i
      · rw [e]; exact h2
      · exact h1 q (by omega)
    · intro h
      exact ⟨fun q hq => h q (by omega), h i (by omega)⟩
/-- What the walk asks of the cliques. -/
structure CliqOK (m : Nat) (X : List (Int × Int)) (C : List (List Int)) : Prop where
  len : C.length ≤ m
  nil : C.length = 0 ↔ m = 0
  row : ∀ i, i < C.length → (C.getD i []).length ≤ 64
  edges : ∀ e ∈ X, ∃ k, k < C.length ∧ hasB (C.getD k []) e.1 = true ∧ hasB (C.getD k []) e.2 = true
  max : ∀ k, k < C.length → ∀ v : Nat, v < m → allTo m X (C.getD k []) v (C.getD k []).length = hasB (C.getD k []) v
theorem chord_some {m : Nat} {X : List (Int × Int)} (ok : okG m X = true) (hc : chordB m X = true) : ∃ bs, earl (joins f0 X) (searchL (joins f0 X) m) 0 [] = some bs := by
  rw [chordB, ok, Bool.true_and, Int.toNat_natCast] at hc
  exact Option.isSome_iff_exists.1 hc
theorem clqL_perm {m : Nat} {X : List (Int × Int)} (ok : okG m X = true) {bs : List Nat} (hb : earl (joins f0 X) (searchL (joins f0 X) m) 0 [] = some bs) : clqL m X = sortL (rawTo (alls bs (searchL (joins f0 X) m)) m) := by
  rw [clqL, if_pos ok, Int.toNat_natCast, hb]
theorem clq_mem {m : Nat} {X : List (Int × Int)} (hm : m ≤ 64) (ok : okG m X = true) (hc : chordB m X = true) (x : List Int) : x ∈ clqL m X ↔ ∃ Q, MaxQ m (joins f0 X) Q ∧ x = memI Q := by
  obtain ⟨bs, hb⟩ := chord_some ok hc
  have g := okG_gr ok
  have ho := search_ord (joins f0 X) m
  have hp := (earl_perf hm g ho).1 (by rw [hb]; rfl)
  rw [clqL_perm ok hb, (sortL_perm _).mem_iff, raw_max hm g ho hp hb]
theorem clq_len {m : Nat} {X : List (Int × Int)} (ok : okG m X = true) (hc : chordB m X = true) : (clqL m X).length ≤ m := by
  obtain ⟨bs, hb⟩ := chord_some ok hc
  rw [clqL_perm ok hb, (sortL_perm _).length_eq]
  exact rawTo_len _ _
theorem cliq_ok {m : Nat} {X : List (Int × Int)} (hm : m ≤ 64) (ok : okG m X = true) (hc : chordB m X = true) : CliqOK m X (clqL m X) := by
  have hmem := clq_mem hm ok hc
  have hlen := clq_len ok hc
  have hcc := hc
  rw [chordB, ok, Bool.true_and, Int.toNat_natCast] at hcc
  have g := okG_gr ok
  have ho := search_ord (joins f0 X) m
  obtain ⟨bs, hb⟩ := chord_some ok hc
  have hp := (earl_perf hm g ho).1 hcc
  obtain ⟨hal, hK⟩ := alls_K hm g ho hb
  have hbit : ∀ i j : Nat, (joins f0 X i).testBit j = true ↔ ((i : Int), (j : Int)) ∈ X ∨ ((j : Int), (i : Int)) ∈ X := okG_bit ok
  have hadj : ∀ a b : Nat, a < m → b < m → (adjB m X a b = true ↔ Ad (joins f0 X) a b) := by
    intro a b ha hb
    rw [adjB, ok]
    simp [Ad, ha, hb]
  generalize clqL m X = C at *
  have hget : ∀ k, k < C.length → ∃ Q, MaxQ m (joins f0 X) Q ∧ C.getD k [] = memI Q := by
    intro k hk
    have : C.getD k [] ∈ C := getD_mem hk
    exact (hmem _).1 this
  have hof : ∀ Q, MaxQ m (joins f0 X) Q → ∃ k, k < C.length ∧ C.getD k [] = memI Q := by
    intro Q hQ
    obtain ⟨k, hk, e⟩ := List.getElem_of_mem ((hmem _).2 ⟨Q, hQ, rfl⟩)
    exact ⟨k, hk, by rw [List.getD_eq_getElem?_getD, List.getElem?_eq_getElem hk]; exact e⟩
  have hin : ∀ Q : Nat, MaxQ m (joins f0 X) Q → ∀ a : Nat, (hasB (memI Q) a = true ↔ Q.testBit a = true) := by
    intro Q hQ a
    rw [hasB_iff, memI_mem]
    constructor
    · rintro ⟨j, hj, _, hb⟩
      obtain rfl : a = j := by omega
      exact hb
    · intro hb
      exact ⟨a, rfl, by have := hQ.lt a hb; omega, hb⟩
  refine ⟨hlen, ?_, ?_, ?_, ?_⟩
  · constructor
    · intro h0
      apply Classical.byContradiction
      intro hm0
      obtain ⟨M, hM, _⟩ := max_cover hm g ho.inj hp hK (fun a => a = 0) (fun a ha => by omega) ⟨0, rfl⟩ (fun a b ha hb hab => absurd (ha.trans hb.symm) hab)
      obtain ⟨k, hk, _⟩ := hof M hM
      omega
    · intro h0; omega
  · intro i hi
    obtain ⟨Q, _, e⟩ := hget i hi
    rw [e]
    exact memI_len Q
  · intro e he
    have hr := ((okG_iff _ _).1 ok).2.2.1 e he
    obtain ⟨a, ha⟩ := Int.eq_ofNat_of_zero_le (show 0 ≤ e.1 by omega)
    obtain ⟨b, hb'⟩ := Int.eq_ofNat_of_zero_le (show 0 ≤ e.2 by omega)
    have hab : Ad (joins f0 X) a b := (hbit a b).2 (.inl (by rw [← ha, ← hb']; exact he))
    obtain ⟨M, hM, hsub⟩ := max_cover hm g ho.inj hp hK (fun x => x = a ∨ x = b) (fun x hx => by
      rcases hx with rfl | rfl
      · exact (g.lt _ _ hab).1
      · exact (g.lt _ _ hab).2) ⟨a, .inl rfl⟩ (fun x y hx hy hxy => by
      rcases hx with rfl | rfl <;> rcases hy with rfl | rfl
      · exact absurd rfl hxy
      · exact hab
      · exact g.sy _ _ hab
      · exact absurd rfl hxy)
    obtain ⟨k, hk, ek⟩ := hof M hM
    refine ⟨k, hk, ?_, ?_⟩
    · rw [ek, ha]; exact (hin M hM a).2 (hsub a (.inl rfl))
    · rw [ek, hb']; exact (hin M hM b).2 (hsub b (.inr rfl))
  · intro k hk v hv
    obtain ⟨Q, hQ, e⟩ := hget k hk
    rw [e, Bool.eq_iff_iff, allTo_iff, hin Q hQ]
    have hent : ∀ q, q < (memI Q).length → ∃ a : Nat, (memI Q).getD q 0 = a ∧ Q.testBit a = true := by
      intro q hq
      have : (memI Q).getD q 0 ∈ memI Q := by
        rw [List.getD_eq_getElem?_getD, List.getElem?_eq_getElem hq]; exact List.getElem_mem hq
      obtain ⟨j, hj, _, hb⟩ := memI_mem.1 this
      exact ⟨j, hj, hb⟩
    constructor
    · intro h
      refine hQ.max v hv (fun a ha hav => ?_)
      have : (a : Int) ∈ memI Q := memI_mem.2 ⟨a, rfl, by have := hQ.lt a ha; omega, ha⟩
      obtain ⟨q, hq, eq⟩ := List.getElem_of_mem this
      have e2 : (memI Q).getD q 0 = a := by rw [List.getD_eq_getElem?_getD, List.getElem?_eq_getElem hq]; exact eq
      rcases h q hq with h1 | h1
      · rw [e2] at h1; omega
      · rw [e2] at h1; exact (hadj a v (hQ.lt a ha) hv).1 h1
    · intro h q hq
      obtain ⟨a, ea, ha⟩ := hent q hq
      rw [ea]
      by_cases hav : a = v
      · left; omega
      · right
        exact (hadj a v (hQ.lt a ha) hv).2 (hQ.clq a v ha h hav)
end Go.Proofs.YtkkfoonaobehaaaDoor.ChD
