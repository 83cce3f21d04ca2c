import Derived.Test.YtkkfoonaobehaaaDoorChT4
namespace Go.Proofs.YtkkfoonaobehaaaDoor.ChT5
open Go.Proofs.YtkkfoonaobehaaaDoor.Bits Go.Proofs.YtkkfoonaobehaaaDoor.Low Go.Proofs.YtkkfoonaobehaaaDoor.Read Go.Proofs.YtkkfoonaobehaaaDoor.Search Go.Proofs.YtkkfoonaobehaaaDoor.Earl Go.Proofs.YtkkfoonaobehaaaDoor.Chord Go.Proofs.YtkkfoonaobehaaaDoor.Sort Go.Proofs.YtkkfoonaobehaaaDoor.Cl Go.Proofs.YtkkfoonaobehaaaDoor.Tr Go.Proofs.YtkkfoonaobehaaaDoor.ComP Go.Proofs.YtkkfoonaobehaaaDoor.GrP Go.Proofs.YtkkfoonaobehaaaDoor.ChA Go.Proofs.YtkkfoonaobehaaaDoor.ChB Go.Proofs.YtkkfoonaobehaaaDoor.ChC Go.Proofs.YtkkfoonaobehaaaDoor.ChD Go.Proofs.YtkkfoonaobehaaaDoor.ChT1 Go.Proofs.YtkkfoonaobehaaaDoor.ChT2 Go.Proofs.YtkkfoonaobehaaaDoor.ChT3 Go.Proofs.YtkkfoonaobehaaaDoor.ChT4
set_option linter.unusedVariables false
set_option linter.unusedSimpArgs false
theorem okRow_of : ∀ (xs : List Int) (p : Option Int), (∀ x ∈ xs, 0 ≤ x ∧ x < 64) → xs.Pairwise (· < ·) → (∀ q, p = some q → ∀ x ∈ xs, q < x) → okRow p xs = true
  | [], _, _, _, _ => rfl
  | x :: xs, p, h1, h2, h3 => by
    rw [List.pairwise_cons] at h2
    rw [okRow, Bool.and_eq_true]
    refine ⟨?_, okRow_of xs (some x) (fun y hy => h1 y (List.mem_cons_of_mem _ hy)) h2.2 (fun q hq y hy => by injection hq with hq; rw [← hq]; exact h2.1 y hy)⟩
    have hx := h1 x (by simp)
    unfold okAt
    cases p with
    | none => simp [hx]
    | some q => simp [hx, h3 q rfl x (by simp)]
theorem max_lt {n : Nat} {f : Nat → Nat} (hn : n ≤ 64) {Q : Nat} (h : MaxQ n f Q) : Q < 18446744073709551616 := by
  refine Nat.lt_pow_two_of_testBit (n := 64) _ (fun j hj => ?_)
  apply Classical.byContradiction
  intro q
  have := h.lt j (by simpa using q)
  omega
theorem memI_ok {n : Nat} {f : Nat → Nat} (hn : n ≤ 64) {Q : Nat} (h : MaxQ n f Q) : okSet (memI Q) = true ∧ bitsOf 0 (memI Q) = Q := by
  constructor
  · rw [okSet, Bool.and_eq_true, decide_eq_true_eq]
    refine ⟨fun e => ?_, okRow_of _ none (fun x hx => ?_) (memI_sorted Q) (fun q hq => by cases hq)⟩
    · obtain ⟨a, ha⟩ := h.ne
      have : (a : Int) ∈ memI Q := memI_mem.2 ⟨a, rfl, by have := h.lt a ha; omega, ha⟩
      rw [e] at this
      cases this
    · obtain ⟨j, rfl, hj, _⟩ := memI_mem.1 hx
      omega
  · apply bits_ext
    intro j
    rw [bitsOf_bit]
    simp only [Nat.zero_testBit, Bool.false_eq_true, false_or]
    constructor
    · rintro ⟨x, hx, e⟩
      obtain ⟨k, rfl, _, hb⟩ := memI_mem.1 hx
      rw [Int.toNat_natCast] at e
      rw [← e]; exact hb
    · intro hb
      exact ⟨(j : Int), memI_mem.2 ⟨j, rfl, by have := h.lt j hb; omega, hb⟩, by simp⟩
theorem clq_nodup {m : Nat} {X : List (Int × Int)} (hm : m ≤ 64) (ok : okG m X = true) (hc : chordB m X = true) : (clqL m X).Nodup := by
  obtain ⟨bs, hb⟩ := chord_some ok hc
  have g := okG_gr ok
  have ho := search_ord (joins f0 X) m
  obtain ⟨hal, hK⟩ := alls_K hm g ho hb
  rw [clqL_perm ok hb, (sortL_perm _).nodup_iff]
  refine rawTo_nodup _ ?_ (alls_nodup hm g ho hb) _ (by rw [hal]; exact Nat.le_refl _)
  intro x hx
  obtain ⟨i, hi, rfl⟩ := List.getElem_of_mem hx
  have hil : i < (searchL (joins f0 X) m).length := by rw [ho.len, ← hal]; exact hi
  have hv := ho.lt _ (List.getElem_mem hil)
  refine Nat.lt_pow_two_of_testBit (n := 64) _ (fun j hj => ?_)
  apply Classical.byContradiction
  intro q
  have := K_lt g hK hv (a := j) (by
    rw [ho.pos_get hil, List.getD_eq_getElem?_getD, List.getElem?_eq_getElem hi]
    simpa using q)
  omega
theorem tree_ok {m : Nat} {X : List (Int × Int)} (hm : m ≤ 64) (ok : okG m X = true) (hc : chordB m X = true) : TreeOK m (clqL m X) (treeL (clqL m X)) ∧ treeC (clqL m X) = 0 := by
  have hmem := clq_mem hm ok hc
  have hlen := clq_len ok hc
  have hnd := clq_nodup hm ok hc
  have hcc := hc
  rw [chordB, ok, Bool.true_and, Int.toNat_natCast] at hcc
  have g := okG_gr ok
  have ho := search_ord (joins f0 X) m
  obtain ⟨bs, hb⟩ := chord_some ok hc
  have hp := (earl_perf hm g ho).1 hcc
  obtain ⟨hal, hK⟩ := alls_K hm g ho hb
  obtain ⟨L, hLn, hLm, hLr⟩ := jun_all hm g ho hp hK
  have hcov := fun v (hv : v < m) => max_cover hm g ho.inj hp hK (fun a => a = v) (fun a ha => by rw [ha]; exact hv) ⟨v, rfl⟩ (fun a b ha hb hab => absurd (ha.trans hb.symm) hab)
  generalize joins f0 X = f at *
  generalize clqL m X = C at *
  have hget : ∀ i, i < C.length → ∃ Q, MaxQ m f Q ∧ C.getD i [] = memI Q := fun i hi => (hmem _).1 (getD_mem hi)
  have hokS : okSets C = true := by
    rw [okSets, List.all_eq_true]
    intro x hx
    obtain ⟨Q, hQ, rfl⟩ := (hmem x).1 hx
    exact (memI_ok hm hQ).1
  obtain ⟨ls, hls⟩ : ∃ ls, ls = C.map (bitsOf 0) := ⟨_, rfl⟩
  have hlsl : ls.length = C.length := by rw [hls, List.length_map]
  have hlsg : ∀ i, i < C.length → MaxQ m f (ls.getD i 0) ∧ C.getD i [] = memI (ls.getD i 0) := by
    intro i hi
    obtain ⟨Q, hQ, e⟩ := hget i hi
    have e2 : ls.getD i 0 = Q := by
      have : ls.getD i 0 = bitsOf 0 (C.getD i []) := by
        rw [hls]
        simp [List.getD_eq_getElem?_getD, hi]
      rw [this, e, (memI_ok hm hQ).2]
    rw [e2]
    exact ⟨hQ, e⟩
  have hhas : ∀ i, i < C.length → ∀ v : Nat, (hasB (C.getD i []) v = true ↔ (ls.getD i 0).testBit v = true) := by
    intro i hi v
    obtain ⟨hQ, e⟩ := hlsg i hi
    rw [e, hasB_iff, memI_mem]
    constructor
    · rintro ⟨j, hj, _, hb⟩
      obtain rfl : v = j := by omega
      exact hb
    · intro hb
      exact ⟨v, rfl, by have := hQ.lt v hb; omega, hb⟩
  have hgl : ∀ i (hi : i < ls.length), ls.getD i 0 = ls[i] := fun i hi => by simp [List.getD_eq_getElem?_getD, hi]
  have hlsm : ∀ x, x ∈ ls ↔ MaxQ m f x := by
    intro x
    constructor
    · intro hx
      obtain ⟨i, hi, rfl⟩ := List.getElem_of_mem hx
      rw [← hgl i hi]
      exact (hlsg i (by rw [← hlsl]; exact hi)).1
    · intro hx
      rw [hls, List.mem_map]
      exact ⟨memI x, (hmem _).2 ⟨x, hx, rfl⟩, (memI_ok hm hx).2⟩
  have hlsn : ls.Nodup := by
    show List.Pairwise (· ≠ ·) ls
    rw [List.pairwise_iff_getElem]
    intro i j hi hj hij e
    have hi' : i < C.length := by rw [← hlsl]; exact hi
    have hj' : j < C.length := by rw [← hlsl]; exact hj
    have h1 := (hlsg i hi').2
    have h2 := (hlsg j hj').2
    rw [hgl i hi] at h1
    rw [hgl j hj, ← e, ← h1] at h2
    rw [List.getD_eq_getElem?_getD, List.getD_eq_getElem?_getD, List.getElem?_eq_getElem hi', List.getElem?_eq_getElem hj'] at h2
    exact (List.pairwise_iff_getElem.1 hnd) i j hi' hj' hij (by simpa using h2.symm)
  have hrip := prim_rip ls hlsn (fun x hx => max_lt hm ((hlsm x).1 hx)) L hLn (fun x => (hLm x).trans (hlsm x).symm) hLr
  have hpar := prim_par ls
  have hio := ins_ord ls
  have htl : treeL C = (Tr.runT ls ls.length).1 := by
    rw [treeL, if_pos ⟨by omega, hokS⟩, ← hls, hlsl]
  have htc : treeC C = 0 := by rw [treeC, if_neg (by omega), if_pos hokS]
  refine ⟨?_, htc⟩
  rw [htl]
  generalize insL ls ls.length = o at *
  have hrl := (runT_len ls ls.length).1
  generalize (Tr.runT ls ls.length).1 = t at *
  have hpo : ∀ i, i < C.length → pos o i < ls.length ∧ o.getD (pos o i) 0 = i := by
    intro i hi
    have h1 := hio.pos_lt (show i < ls.length by omega)
    have h2 := hio.get_pos (show i < ls.length by omega)
    refine ⟨by rw [hio.len] at h1; exact h1, ?_⟩
    rw [List.getD_eq_getElem?_getD, List.getElem?_eq_getElem h1]
    exact h2
  refine ⟨by rw [hrl, hlsl], ?_, ?_⟩
  · intro i hi
    obtain ⟨h1, h2⟩ := hpo i hi
    have h3 := hpar (pos o i) h1
    rw [h2] at h3
    rcases h3 with h3 | ⟨k, hk, h3⟩
    · rw [h3]; omega
    · have hkl := hio.lt k (List.mem_of_mem_take hk)
      have hkp := (hio.take hkl).1 hk
      rw [h3]
      refine ⟨by omega, by omega, fun e => ?_⟩
      obtain rfl : k = i := by omega
      omega
  · intro v hv
    obtain ⟨M, hM, hMv⟩ := hcov v hv
    obtain ⟨q, hq, hqe⟩ := List.getElem_of_mem ((hlsm M).2 hM)
    have hq' : q < C.length := by rw [← hlsl]; exact hq
    have hqv : (ls.getD q 0).testBit v = true := by rw [hgl q hq, hqe]; exact hMv v rfl
    obtain ⟨p1, p2⟩ := hpo q hq'
    obtain ⟨r0, hr0, ⟨hr0l, hr0v⟩, hmin⟩ := ChA.least (fun r => r < ls.length ∧ (ls.getD (o.getD r 0) 0).testBit v = true) (pos o q) ⟨p1, by rw [p2]; exact hqv⟩
    have hi0 : ∃ i0, i0 < C.length ∧ pos o i0 = r0 ∧ o.getD r0 0 = i0 := by
      have hrl0 : r0 < o.length := by rw [hio.len]; exact hr0l
      refine ⟨o[r0], by rw [← hlsl]; exact hio.lt _ (List.getElem_mem hrl0), hio.pos_get hrl0, ?_⟩
      rw [List.getD_eq_getElem?_getD, List.getElem?_eq_getElem hrl0]
      rfl
    obtain ⟨i0, hi0l, hi0p, hi0g⟩ := hi0
    rw [hi0g] at hr0v
    have hkey : ∀ i, i < C.length → (linkB C t v i = true ↔ hasB (C.getD i []) v = true ∧ i ≠ i0) := by
      intro i hi
      obtain ⟨h1, h2⟩ := hpo i hi
      rw [linkB, Bool.and_eq_true, Bool.and_eq_true, decide_eq_true_eq]
      constructor
      · rintro ⟨ha, hb, hc⟩
        refine ⟨ha, fun e => ?_⟩
        subst e
        have h3 := hpar (pos o i) h1
        rw [h2] at h3
        rcases h3 with h3 | ⟨k, hk, h3⟩
        · rw [h3] at hb; omega
        · have hkl := hio.lt k (List.mem_of_mem_take hk)
          have hkp := (hio.take hkl).1 hk
          rw [h3, Int.toNat_natCast, hhas k (by omega)] at hc
          obtain ⟨k1, k2⟩ := hpo k (by omega)
          exact hmin (pos o k) (by omega) ⟨k1, by rw [k2]; exact hc⟩
      · rintro ⟨ha, hne⟩
        have hiv := (hhas i hi v).1 ha
        have hge : r0 ≤ pos o i := by
          apply Classical.byContradiction
          intro q
          exact hmin (pos o i) (by omega) ⟨h1, by rw [h2]; exact hiv⟩
        have hne2 : r0 ≠ pos o i := fun e => hne (hio.inj i i0 (show i < ls.length by omega) (show i0 < ls.length by omega) (by rw [hi0p, e]))
        have := hrip (pos o i) h1 v (by rw [h2]; exact hiv) ⟨i0, (hio.take (show i0 < ls.length by omega)).2 (by omega), hr0v⟩
        rw [h2] at this
        obtain ⟨k, hk, e, hkv⟩ := this
        have hkl := hio.lt k (List.mem_of_mem_take hk)
        rw [e]
        exact ⟨ha, by omega, by rw [Int.toNat_natCast, hhas k (by omega)]; exact hkv⟩
    have := (count_but C t v i0 ((hhas i0 hi0l v).2 hr0v) hkey C.length (Nat.le_refl _)).1 hi0l
    omega
end Go.Proofs.YtkkfoonaobehaaaDoor.ChT5
