import Derived.Test.YtkkfoonaobehaaaDoorKeep
namespace Go.Proofs.YtkkfoonaobehaaaDoor.Ref
open Go.RowKit Go.Proofs.YtkkfoonaobehaaaDoorW.PrintWords Go.Proofs.YtkkfoonaobehaaaDoor.Bits Go.Proofs.YtkkfoonaobehaaaDoor.Low Go.Proofs.YtkkfoonaobehaaaDoor.Sets Go.Proofs.YtkkfoonaobehaaaDoor.Read Go.Proofs.YtkkfoonaobehaaaDoor.Sort Go.Proofs.YtkkfoonaobehaaaDoor.Tr Go.Proofs.YtkkfoonaobehaaaDoor.Mk
set_option maxHeartbeats 800000
set_option maxRecDepth 100000
set_option linter.unusedVariables false
set_option linter.unusedSimpArgs false

def rowS (g n k : Nat) : Array Value := ((List.range n).map fun i => if i < k then Value.slice (some ⟨g + 1 + i, 0, none⟩) n n else .slice none 0 0).toArray
theorem rowS_at (g n k i : Nat) (h : i < n) : (rowS g n k)[i]? = some (if i < k then Value.slice (some ⟨g + 1 + i, 0, none⟩) n n else .slice none 0 0) := by simp [rowS, h]
theorem rowS_set (g n k : Nat) (h : k < n) : (rowS g n k).setIfInBounds k (.slice (some ⟨g + 1 + k, 0, none⟩) n n) = rowS g n (k + 1) := by
  apply Array.ext'
  apply List.ext_getElem
  · simp [rowS]
  · intro i h1 h2
    simp only [rowS, List.setIfInBounds_toArray, List.toList_toArray, List.getElem_set]
    by_cases e : k = i
    · subst e; simp
    · simp only [e, if_false, List.getElem_map, List.getElem_range]
      have : i < k + 1 ↔ i < k := by omega
      simp only [this]
theorem rowS_zero (g n : Nat) : madeCells #[Value.slice none 0 0] n = rowS g n 0 := by
  apply Array.ext'
  apply List.ext_getElem
  · simp [madeCells, rowS]
  · intro i h1 h2
    simp [madeCells, rowS, Nat.mod_one]
def bitRow (u n : Nat) : List Bool := (List.range n).map fun j => u.testBit j
theorem bitRow_len (u n : Nat) : (bitRow u n).length = n := by simp [bitRow]
theorem bitRow_get (u n j : Nat) (h : j < n) : (bitRow u n).getD j false = u.testBit j := by simp [bitRow, h]
theorem bitRow_set (u n j : Nat) : (bitRow u n).set j true = bitRow (u ||| 2 ^ j) n := by
  apply List.ext_getElem
  · simp [bitRow]
  · intro i h1 h2
    rw [List.getElem_set]
    simp only [bitRow, List.getElem_map, List.getElem_range, Nat.testBit_or, Nat.testBit_two_pow]
    by_cases e : j = i <;> simp [e]
theorem bitRow_zero (n : Nat) : bitRow 0 n = List.replicate n false := by
  apply List.ext_getElem
  · simp [bitRow]
  · intro i h1 h2
    simp [bitRow]
/-- A square table: the rows' addresses in one block, each row in a block of its own behind it. -/
def Mat (w : World) (g n : Nat) (f : Nat → Nat) : Prop := w.heap[g]? = some (.cells (rowS g n n) 61 (0, 0)) ∧ ∀ i, i < n → w.heap[g + 1 + i]? = some (.cells (rowB (bitRow (f i) n)) 4 (0, 0))
theorem Mat_below {w w1 : World} {g n : Nat} {f : Nat → Nat} (h : Mat w g n f) (hb : Below w.heap.size w w1) : Mat w1 g n f := ⟨blk_below h.1 hb, fun i hi => blk_below (h.2 i hi) hb⟩
theorem Mat_put {w : World} {g n : Nat} {f : Nat → Nat} (h : Mat w g n f) (i j : Nat) (hi : i < n) : Mat (w.setCell ⟨g + 1 + i, j, none⟩ (.bool true)) g n (put f i (f i ||| 2 ^ j)) := by
  refine ⟨blk_far h.1 (by simp; omega) _, fun k hk => ?_⟩
  by_cases e : i = k
  · subst e
    have := blk_set (h.2 i hi) j (.bool true)
    rw [rowB_set, bitRow_set] at this
    simpa [put] using this
  · have := blk_far (h.2 k hk) (p := ⟨g + 1 + i, j, none⟩) (by simp; omega) (.bool true)
    simpa [put, show ¬ k = i by omega] using this

theorem blank_any (n : Nat) (hn : n ≤ 64) (w : World) :
    Calls Tryd.prog 42 #[.int .i64 n] w fun e w' => e = .returned (.slice (some ⟨w.heap.size, 0, none⟩) n n) ∧ Mat w' w.heap.size n f0 ∧ Below w.heap.size w w' := by
  have hmk : ∀ W : World, (Instr.makeSlice 59 (.int .i64 (n : Int)) (.int .i64 (n : Int))).run Tryd.prog W = .ok (.slice (some ⟨W.heap.size, 0, none⟩) n n) (W.alloc (.cells (rowS w.heap.size n 0) 61)) := by
    intro W
    rw [← rowS_zero]
    exact print_make_of (P := Tryd.prog) 59 61 (.slice none 0 0) 24 Tryd.underlying59 (by kernel_rfl) rfl (by decide) n (by omega) W
  have hmk3 : ∀ W : World, (Instr.makeSlice 61 (.int .i64 (n : Int)) (.int .i64 (n : Int))).run Tryd.prog W = .ok (.slice (some ⟨W.heap.size, 0, none⟩) n n) (W.alloc (.cells (rowB (bitRow 0 n)) 4)) := by
    intro W
    rw [bitRow_zero, ← rowB_zero]
    exact print_make_of (P := Tryd.prog) 61 4 (.bool false) 1 Tryd.underlying61 (by kernel_rfl) rfl (by decide) n (by omega) W
  have HM3 := Aside0.mk hmk3
  clear hmk3
  go_enter Tryd.func42, Tryd.ntmps42
  go_wp2_with fail
  clear hmk
  go_loopw [4] (fun i wr => ∃ k : Nat, i = .int .i64 k ∧ k ≤ n ∧ wr.heap.size = w.heap.size + 1 + k ∧ wr.heap[w.heap.size]? = some (.cells (rowS w.heap.size n k) 61 (0, 0)) ∧ Aside0 (∀ i, i < k → wr.heap[w.heap.size + 1 + i]? = some (.cells (rowB (bitRow 0 n)) 4 (0, 0))) ∧ Below w.heap.size w wr) (fun i _ => n - (intOf i).toNat)
  case atStart => exact ⟨0, rfl, by omega, by simp, blk_at rfl, ⟨by omega⟩, (Below.refl _ _).alloc (Nat.le_refl _) _⟩
  case round =>
    obtain ⟨k, rfl, hk, hsz, hG, HK, hB⟩ := hrel
    by_cases hlt : k < n
    · have hG1 := blk_alloc hG (.cells (rowB (bitRow 0 n)) 4)
      have hc1 : (wr.alloc (.cells (rowB (bitRow 0 n)) 4)).cell? ⟨w.heap.size, k, none⟩ = some (.slice none 0 0) := (blk_cell hG1 k).trans (by rw [rowS_at _ _ _ _ hlt]; simp)
      have hf1 := blk_frozen hG1 k
      have hG0 := Aside0.mk hG
      have HG := Aside0.mk hG1
      have hmk3 := HM3.out
      have HSZ := Aside0.mk hsz
      have hne : ¬ (wr.heap.size = w.heap.size) := by omega
      have hne2 : ¬ (w.heap.size = wr.heap.size) := by omega
      clear hG hG1 hsz
      go_wp2_with fail
      refine ⟨⟨k + 1, by go_num, by omega, by simp [HSZ.out]; omega, ?_, ⟨?_⟩, (hB.alloc hB.size _).setCell (by simp) _⟩, by simp [intOf]; omega⟩
      · have := blk_set HG.out k (.slice (some ⟨w.heap.size + 1 + k, 0, none⟩) n n)
        rw [rowS_set _ _ _ hlt] at this
        rw [HSZ.out]
        exact this
      · intro i hi
        by_cases e : i < k
        · exact blk_far (blk_alloc (HK.out i e) _) (by simp; omega) _
        · obtain rfl : i = k := by omega
          exact blk_far (blk_at (by rw [HSZ.out])) (by simp; omega) _
    · obtain rfl : k = n := by omega
      have HG := Aside0.mk hG
      clear hG hsz
      go_wp2_with fail
      go_ret
      exact ⟨rfl, ⟨HG.out, HK.out⟩, hB⟩
def partW (f : Nat → Nat) (i q : Nat) : List (Int × Int) := List.map (fun j : Nat => ((i : Int), Int.ofNat j)) (List.filter (fun j : Nat => decide (i < j) && (f i).testBit j) (List.range q))
def edgesW (f : Nat → Nat) (n : Nat) : Nat → List (Int × Int)
  | 0 => []
  | i + 1 => edgesW f n i ++ partW f i n
theorem partW_len (f : Nat → Nat) (i q : Nat) : (partW f i q).length ≤ q := by
  have := List.length_filter_le (fun j => decide (i < j) && (f i).testBit j) (List.range q)
  simpa [partW] using this
theorem edgesW_len (f : Nat → Nat) (n : Nat) (hn : n ≤ 64) (i : Nat) : (edgesW f n i).length ≤ 64 * i := by
  induction i with
  | zero => simp [edgesW]
  | succ i ih => have := partW_len f i n; simp [edgesW]; omega
theorem partW_step (f : Nat → Nat) (i q : Nat) (h : i < q) : partW f i (q + 1) = partW f i q ++ if (f i).testBit q = true then [((i : Int), (q : Int))] else [] := by
  rw [partW, List.range_succ, List.filter_append, List.map_append, ← partW]
  congr 1
  by_cases e : (f i).testBit q = true <;> simp [h, e]
theorem partW_start (f : Nat → Nat) (i : Nat) : partW f i (i + 1) = [] := by
  simp only [partW, List.map_eq_nil_iff, List.filter_eq_nil_iff, List.mem_range]
  intro a ha
  simp
  omega
theorem write_any (f : Nat → Nat) (n g cc : Nat) (w : World) (hn : n ≤ 64) (hM : Mat w g n f) :
    Calls Tryd.prog 43 #[.slice (some ⟨g, 0, none⟩) n cc] w fun e w' => ∃ v, e = .returned (.agg #[.int .i64 n, v]) ∧ Kd.R KE 46 w' w.heap.size (fun _ => True) v (edgesW f n n) ∧ Below w.heap.size w w' := by
  have HM := Aside0.mk hM
  clear hM
  go_enter Tryd.func43, Tryd.ntmps43
  go_wp2_with fail
  go_loopw [4, 5] (fun i _ wr => ∃ (k : Nat) (v : Value), i = .int .i64 k ∧ k ≤ n ∧ wr.heap[w.heap.size + 1]? = some (.cells #[.int .i64 n, v] 25 (0, 0)) ∧ wr.heap[w.heap.size]? = some (.cells #[.int .i64 0, .slice none 0 0] 25 (0, 0)) ∧ Kd.R KE 46 wr w.heap.size (fun _ => True) v (edgesW f n k) ∧ Below w.heap.size w wr) (fun i _ _ => n - (intOf i).toNat)
  case atStart => exact ⟨0, .slice none 0 0, rfl, by omega, blk_at (by simp), blk_alloc (blk_at rfl) _, Kd.R_nil _ _ _ _ _, ((Below.refl _ _).alloc (by omega) _).alloc (by simp) _⟩
  case round =>
    obtain ⟨k, v, rfl, hk, HG, HZ, HO, HB⟩ := hrel
    have hblt : g < w.heap.size := blk_lt HM.out.1
    have HG' := Aside0.mk HG
    have HZ' := Aside0.mk HZ
    clear HG HZ
    by_cases hlt : k < n
    · go_wp2_with fail
      obtain ⟨wo, rfl⟩ : ∃ wo : World, wo = wr := ⟨_, rfl⟩
      have hel := edgesW_len f n hn k
      go_loopw [5] (fun j wr2 => ∃ (q : Nat) (v2 : Value), j = .int .i64 q ∧ k < q ∧ (q ≤ n ∨ q = k + 1) ∧ wr2.heap[w.heap.size + 1]? = some (.cells #[.int .i64 n, v2] 25 (0, 0)) ∧ wr2.heap[w.heap.size]? = some (.cells #[.int .i64 0, .slice none 0 0] 25 (0, 0)) ∧ Kd.R KE 46 wr2 w.heap.size (fun _ => True) v2 (edgesW f n k ++ partW f k q) ∧ Below w.heap.size w wr2) (fun j _ => n - (intOf j).toNat)
      case atStart => exact ⟨k + 1, v, by go_num, by omega, .inr rfl, HG'.out, HZ'.out, by rw [partW_start, List.append_nil]; exact HO, HB⟩
      case round =>
        obtain ⟨q, v2, rfl, hkq, hq, G, Z, O2, B2⟩ := hrel
        have hpl := partW_len f k q
        have hbl := B2.size
        by_cases hql : q < n
        · have HMr := Mat_below HM.out B2
          have hr := HMr.2 k hlt
          have hcr : wr.cell? ⟨g, k, none⟩ = some (.slice (some ⟨g + 1 + k, 0, none⟩) n n) := (blk_cell HMr.1 k).trans (by rw [rowS_at _ _ _ _ hlt, if_pos hlt])
          have hcb : wr.cell? ⟨g + 1 + k, q, none⟩ = some (.bool ((f k).testBit q)) := (blk_cell hr q).trans (by rw [rowB_at _ q (by rw [bitRow_len]; exact hql), bitRow_get _ _ _ hql])
          have HP := Aside0.mk (partW_step f k q hkq)
          obtain ⟨A3, c3, rfl, hc3, hC3⟩ := Kd.R_reads O2
          have g1 : wr.cell? ⟨w.heap.size + 1, 1, none⟩ = some (.slice A3 (edgesW f n k ++ partW f k q).length c3) := by simpa using blk_cell G 1
          have hne := Kd.R_ne O2 G (by decide)
          have Gx := Aside0.mk G
          have Zx := Aside0.mk Z
          have Nx := Aside0.mk hne
          have hL : (edgesW f n k ++ partW f k q).length ≤ 64 * 64 + 64 := by simp; omega
          generalize hE : edgesW f n k ++ partW f k q = E at *
          have hE' := Aside0.mk hE
          generalize (f k).testBit q = t at *
          clear G Z hne hC3 hE hr HMr
          cases t with
          | true =>
            go_wp2_with (first
              | (at_builtin; go_must (refine Kd.R_append KE w.heap.size (by rfl) (.tmp 31) (.tmp 35) 22 46 (.agg #[.int .i64 0, .int .i64 0]) 16 (by rfl) Tryd.underlying22 i46 rfl (by decide) (by decide) _ E ((k : Int), (q : Int)) [.int .i64 k, .int .i64 q] (fun _ => True) (fun _ => False) (by rfl) (by rfl) ⟨[.int .i64 k], [.int .i64 q], rfl, rfl, rfl⟩ (fun _ h => h.elim) (fun _ _ => trivial) O2 B2 hbl (by omega) ?_); intro v1 w3 O3 B3 hgr hat; obtain ⟨A4, c4, rfl, hc4, hC4⟩ := Kd.R_reads O3; go_must (have G3 := blk_grown Gx.out hgr Nx.out); have g3 := blk_frozen G3 1; go_must (have g4 : w3.cell? ⟨w.heap.size + 1, 1, none⟩ = some (.slice A3 E.length c3) := (by simpa using blk_cell G3 1))))
            have hP := HP.out
            rw [if_pos rfl] at hP
            refine ⟨⟨q + 1, .slice A4 (E.length + 1) c4, by go_num, by omega, .inl (by omega), by have := blk_set G3 1 (.slice A4 (E.length + 1) c4); simpa using this, blk_far (blk_grown Zx.out hgr (Kd.R_ne O2 Zx.out (by decide))) (by simp) _, ?_, B3.setCell (by simp) _⟩, by simp [intOf]; omega⟩
            have := Kd.R_set O3 G3 (by decide) 1 (.slice A4 (E.length + 1) c4)
            rw [hP, ← List.append_assoc, hE'.out]
            simpa using this
          | false =>
            go_wp2_with fail
            have hP := HP.out
            rw [if_neg (by simp), List.append_nil] at hP
            refine ⟨⟨q + 1, _, by go_num, by omega, .inl (by omega), Gx.out, Zx.out, ?_, B2⟩, by simp [intOf]; omega⟩
            rw [hP, hE'.out]
            exact O2
        · obtain rfl : q = n := by omega
          go_wp2_with fail
          exact ⟨⟨k + 1, v2, by go_num, by omega, G, Z, by rw [edgesW]; exact O2, B2⟩, by simp [intOf]; omega⟩
    · obtain rfl : k = n := by omega
      obtain ⟨A, c, rfl, hc, hC⟩ := Kd.R_reads HO
      have g0 : wr.cell? ⟨w.heap.size + 1, 0, none⟩ = some (.int .i64 k) := by simpa using blk_cell HG'.out 0
      have g1 : wr.cell? ⟨w.heap.size + 1, 1, none⟩ = some (.slice A (edgesW f k k).length c) := by simpa using blk_cell HG'.out 1
      have z0 : wr.cell? ⟨w.heap.size, 0, none⟩ = some (.int .i64 0) := by simpa using blk_cell HZ'.out 0
      have z1 : wr.cell? ⟨w.heap.size, 1, none⟩ = some (.slice none 0 0) := by simpa using blk_cell HZ'.out 1
      have zf0 := blk_frozen HZ'.out 0
      have zf1 := blk_frozen HZ'.out 1
      clear hC
      go_wp2_with fail
      have H1 := blk_set (blk_set HZ'.out 0 (.int .i64 k)) 1 (.slice A (edgesW f k k).length c)
      refine bodyPost_ret (results_cell_row rfl _ _ w.heap.size 25 #[.int .i64 k, .slice A (edgesW f k k).length c] (0, 0) _ rfl (by simpa using H1) Tryd.underlying25 rfl (by kernel_rfl)) rfl ?_
      refine ⟨_, rfl, Kd.R_set (Kd.R_set HO HZ'.out (by decide) 0 _) (blk_set HZ'.out 0 _) (by decide) 1 _, (HB.setCell (by simp) _).setCell (by simp) _⟩
theorem rmake_any (n : Int) (E : List (Int × Int)) (A : Option Addr) (c : Nat) (w : World) (hE : KE.C w A E.length E) (hl : E.length ≤ 1000000) :
    Calls Tryd.prog 14 #[.int .i64 n, .slice A E.length c] w fun e w' => ∃ v, e = .returned (.tuple #[.agg #[.int .i64 (mkN n E), v], .int .i64 (mkC n E)]) ∧ Kd.R KE 46 w' w.heap.size (fun _ => True) v (if mkC n E = 0 then edgesW (joins f0 E) n.toNat n.toNat else []) ∧ Below w.heap.size w w' := by
  have HC := Aside0.mk hE
  clear hE
  by_cases hn : n < 0 ∨ 64 < n
  · have e1 : mkC n E = 3 := by simp [mkC, hn]
    have e2 : mkN n E = 0 := by simp [mkN, e1]
    rw [e1, e2, if_neg (by decide)]
    clear e1 e2
    by_cases h1 : n < 0
    · have d1 : decide (n < 0) = true := by simpa using h1
      clear hn
      go_enter Tryd.func14, Tryd.ntmps14
      go_wp2_with fail
      refine bodyPost_ret (results_ct rfl _ _ w.heap.size 25 #[.int .i64 0, .slice none 0 0] (0, 0) _ (by simp) (blk_at rfl) Tryd.underlying25 rfl (by kernel_rfl)) rfl ?_
      exact ⟨_, rfl, Kd.R_nil _ _ _ _ _, (Below.refl _ _).alloc (Nat.le_refl _) _⟩
    · have d1 : decide (n < 0) = false := by simpa using h1
      have d2 : decide (64 < n) = true := by simpa using (show 64 < n by omega)
      clear hn
      go_enter Tryd.func14, Tryd.ntmps14
      go_wp2_with fail
      refine bodyPost_ret (results_ct rfl _ _ w.heap.size 25 #[.int .i64 0, .slice none 0 0] (0, 0) _ (by simp) (blk_at rfl) Tryd.underlying25 rfl (by kernel_rfl)) rfl ?_
      exact ⟨_, rfl, Kd.R_nil _ _ _ _ _, (Below.refl _ _).alloc (Nat.le_refl _) _⟩
  · have e1 : mkC n E = if E.all (inR n) then if E.any loopE then 1 else 0 else 3 := by simp [mkC, hn]
    obtain ⟨n, rfl⟩ := Int.eq_ofNat_of_zero_le (show 0 ≤ n by omega)
    have hn64 : n ≤ 64 := by omega
    have HBad : Aside0 (E.all (inR n) = false → mkC n E = 3 ∧ mkN n E = 0 ∧ (if mkC n E = 0 then edgesW (joins f0 E) n n else []) = []) := ⟨fun h => by
      have : mkC n E = 3 := by rw [e1, h]; rfl
      simp [mkN, this]⟩
    have HBad1 : Aside0 (E.all (inR n) = true → E.any loopE = true → mkC n E = 1 ∧ mkN n E = 0 ∧ (if mkC n E = 0 then edgesW (joins f0 E) n n else []) = []) := ⟨fun h q => by
      have : mkC n E = 1 := by rw [e1, h, q]; rfl
      simp [mkN, this]⟩
    have HGood : Aside0 (E.all (inR n) = true → E.any loopE = false → mkC n E = 0 ∧ mkN n E = n ∧ (if mkC n E = 0 then edgesW (joins f0 E) n n else []) = edgesW (joins f0 E) n n) := ⟨fun h q => by
      have : mkC n E = 0 := by rw [e1, h, q]; rfl
      simp [mkN, this]⟩
    clear e1
    simp only [Int.toNat_natCast]
    generalize (if mkC n E = 0 then edgesW (joins f0 E) n n else []) = re at *
    generalize mkC n E = rc at *
    generalize mkN n E = rn at *
    have d1 : decide ((n : Int) < 0) = false := by simp <;> omega
    have d2 : decide ((64 : Int) < (n : Int)) = false := by simp <;> omega
    go_enter Tryd.func14, Tryd.ntmps14
    go_wp2_with fail
    clear d1 d2
    go_loopw [6, 7] (fun i _ wr => ∃ k : Nat, i = .int .i64 k ∧ k ≤ E.length ∧ wr.heap[w.heap.size]? = some (.cells #[.int .i64 0, .slice none 0 0] 25 (0, 0)) ∧ Aside0 (E.all (inR n) = (E.drop k).all (inR n)) ∧ Below w.heap.size w wr) (fun i _ _ => E.length - (intOf i).toNat)
    case atStart => exact ⟨0, rfl, by omega, blk_at rfl, ⟨rfl⟩, (Below.refl _ _).alloc (by omega) _⟩
    case round =>
      obtain ⟨k, rfl, hk, HZ, HK, HB⟩ := hrel
      have z0 : wr.cell? ⟨w.heap.size, 0, none⟩ = some (.int .i64 0) := by simpa using blk_cell HZ 0
      have z1 : wr.cell? ⟨w.heap.size, 1, none⟩ = some (.slice none 0 0) := by simpa using blk_cell HZ 1
      have zf0 := blk_frozen HZ 0
      have zf1 := blk_frozen HZ 1
      have HZ' := Aside0.mk HZ
      clear HZ
      by_cases hlt : k < E.length
      · have HC' := Kd.C_below HC.out HB
        obtain ⟨ad, ead, ha, hb⟩ := C_pair HC' k hlt
        have HA := Aside0.mk (all_step n E k hlt)
        cases ead
        generalize E.getD k (0, 0) = ab at *
        obtain ⟨a, b⟩ := ab
        simp only at ha hb
        clear HC'
        have hbadk : inR n (a, b) = false → E.all (inR n) = false := by
          intro h
          rw [HK.out, HA.out, h]
          rfl
        have HBK := Aside0.mk hbadk
        clear hbadk
        go_wp2_with fail
        obtain ⟨wo, rfl⟩ : ∃ wo : World, wo = wr := ⟨_, rfl⟩
        go_loop [7] (fun j => ∃ q : Nat, j = .int .i64 q ∧ q ≤ 2 ∧ (1 ≤ q → 0 ≤ a ∧ a < n) ∧ (2 ≤ q → 0 ≤ b ∧ b < n)) (fun j => 2 - (intOf j).toNat)
        case atStart => exact ⟨0, rfl, by omega, by omega, by omega⟩
        case round =>
          obtain ⟨q, rfl, hq, hqa, hqb⟩ := hrel
          obtain rfl | rfl | rfl : q = 0 ∨ q = 1 ∨ q = 2 := by omega
          · clear hqa hqb
            by_cases q1 : a < 0
            · have d3 : decide (a < 0) = true := by simpa using q1
              obtain ⟨r1, r2, r3⟩ := HBad.out (HBK.out (by simp [inR]; omega))
              have R1 := Aside0.mk r1
              have R2 := Aside0.mk r2
              have R3 := Aside0.mk r3
              clear r1 r2 r3
              go_wp2_with fail
              have H8 := blk_set (blk_set HZ'.out 0 (.int .i64 0)) 1 (.slice none 0 0)
              refine bodyPost_ret (results_ct rfl _ _ w.heap.size 25 #[.int .i64 0, .slice none 0 0] (0, 0) _ (by simp) (by simpa using H8) Tryd.underlying25 rfl (by kernel_rfl)) rfl ?_
              exact ⟨_, by rw [R1.out, R2.out]; rfl, by rw [R3.out]; exact Kd.R_nil _ _ _ _ _, (HB.setCell (by simp) _).setCell (by simp) _⟩
            · have d3 : decide (a < 0) = false := by simpa using q1
              by_cases q2 : (n : Int) ≤ a
              · have d4 : decide ((n : Int) ≤ a) = true := by simpa using q2
                obtain ⟨r1, r2, r3⟩ := HBad.out (HBK.out (by simp [inR]; omega))
                have R1 := Aside0.mk r1
                have R2 := Aside0.mk r2
                have R3 := Aside0.mk r3
                clear r1 r2 r3
                go_wp2_with fail
                have H8 := blk_set (blk_set HZ'.out 0 (.int .i64 0)) 1 (.slice none 0 0)
                refine bodyPost_ret (results_ct rfl _ _ w.heap.size 25 #[.int .i64 0, .slice none 0 0] (0, 0) _ (by simp) (by simpa using H8) Tryd.underlying25 rfl (by kernel_rfl)) rfl ?_
                exact ⟨_, by rw [R1.out, R2.out]; rfl, by rw [R3.out]; exact Kd.R_nil _ _ _ _ _, (HB.setCell (by simp) _).setCell (by simp) _⟩
              · have d4 : decide ((n : Int) ≤ a) = false := by simpa using q2
                go_wp2_with fail
                exact ⟨⟨1, by go_num, by omega, by omega, by omega⟩, by simp [intOf]⟩
          · have hqa' := hqa (by omega)
            clear hqa hqb
            by_cases q1 : b < 0
            · have d3 : decide (b < 0) = true := by simpa using q1
              obtain ⟨r1, r2, r3⟩ := HBad.out (HBK.out (by simp [inR]; omega))
              have R1 := Aside0.mk r1
              have R2 := Aside0.mk r2
              have R3 := Aside0.mk r3
              clear r1 r2 r3
              go_wp2_with fail
              have H8 := blk_set (blk_set HZ'.out 0 (.int .i64 0)) 1 (.slice none 0 0)
              refine bodyPost_ret (results_ct rfl _ _ w.heap.size 25 #[.int .i64 0, .slice none 0 0] (0, 0) _ (by simp) (by simpa using H8) Tryd.underlying25 rfl (by kernel_rfl)) rfl ?_
              exact ⟨_, by rw [R1.out, R2.out]; rfl, by rw [R3.out]; exact Kd.R_nil _ _ _ _ _, (HB.setCell (by simp) _).setCell (by simp) _⟩
            · have d3 : decide (b < 0) = false := by simpa using q1
              by_cases q2 : (n : Int) ≤ b
              · have d4 : decide ((n : Int) ≤ b) = true := by simpa using q2
                obtain ⟨r1, r2, r3⟩ := HBad.out (HBK.out (by simp [inR]; omega))
                have R1 := Aside0.mk r1
                have R2 := Aside0.mk r2
                have R3 := Aside0.mk r3
                clear r1 r2 r3
                go_wp2_with fail
                have H8 := blk_set (blk_set HZ'.out 0 (.int .i64 0)) 1 (.slice none 0 0)
                refine bodyPost_ret (results_ct rfl _ _ w.heap.size 25 #[.int .i64 0, .slice none 0 0] (0, 0) _ (by simp) (by simpa using H8) Tryd.underlying25 rfl (by kernel_rfl)) rfl ?_
                exact ⟨_, by rw [R1.out, R2.out]; rfl, by rw [R3.out]; exact Kd.R_nil _ _ _ _ _, (HB.setCell (by simp) _).setCell (by simp) _⟩
              · have d4 : decide ((n : Int) ≤ b) = false := by simpa using q2
                go_wp2_with fail
                exact ⟨⟨2, by go_num, by omega, by omega, by omega⟩, by simp [intOf]⟩
          · have hqa' := hqa (by omega)
            have hqb' := hqb (by omega)
            clear hqa hqb
            have hin : inR n (a, b) = true := by simp [inR]; omega
            have HK2 : Aside0 (E.all (inR n) = (E.drop (k + 1)).all (inR n)) := ⟨by rw [HK.out, HA.out, hin, Bool.true_and]⟩
            clear hin
            go_wp2_with fail
            exact ⟨⟨k + 1, by go_num, by omega, HZ'.out, HK2, HB⟩, by simp [intOf]; omega⟩
      · obtain rfl : k = E.length := by omega
        have hall : E.all (inR n) = true := by rw [HK.out, List.drop_length]; rfl
        have hb1 := HBad1.out hall
        have hg1 := HGood.out hall
        have HBad2 := Aside0.mk hb1
        have HGood2 := Aside0.mk hg1
        have hir : ∀ k, k < E.length → inR n (E.getD k (0, 0)) = true := by
          intro k hk
          rw [List.all_eq_true] at hall
          refine hall _ ?_
          rw [List.getD_eq_getElem?_getD, List.getElem?_eq_getElem hk, Option.getD_some]
          exact List.getElem_mem hk
        have HIR := Aside0.mk hir
        clear hall hb1 hg1 hir HK HBad HBad1 HGood z0 z1 zf0 zf1
        obtain ⟨w5, rfl⟩ : ∃ w5 : World, w5 = wr := ⟨_, rfl⟩
        go_wp2_with (go_at_call 42; go_must (refine (blank_any n (by omega) _).mono ?_); rintro e w6 ⟨rfl, HM6, HB6⟩)
        obtain ⟨g, hge⟩ : ∃ g, g = w5.heap.size := ⟨_, rfl⟩
        rw [← hge] at HM6 ⊢
        have hgw : w.heap.size < g := by rw [hge]; exact blk_lt HZ'.out
        have HZ6 := Aside0.mk (blk_below HZ'.out HB6)
        have HB7 := below_then HB HB.size HB6
        have HM6' := Aside0.mk HM6
        clear HM6 hge HB6 HB
        go_loopw [9, 10, 11] (fun i _ _ wr => ∃ k : Nat, i = .int .i64 k ∧ k ≤ E.length ∧ wr.heap[w.heap.size]? = some (.cells #[.int .i64 0, .slice none 0 0] 25 (0, 0)) ∧ Mat wr g n (joins f0 (E.take k)) ∧ Aside0 ((E.take k).any loopE = false) ∧ Below w.heap.size w wr) (fun i _ _ _ => E.length - (intOf i).toNat)
        case atStart => exact ⟨0, rfl, by omega, HZ6.out, HM6'.out, ⟨rfl⟩, HB7⟩
        case round =>
          obtain ⟨k, rfl, hk, HZ, HM, HL, HB⟩ := hrel
          have HZ' := Aside0.mk HZ
          have HM' := Aside0.mk HM
          clear HZ HM
          by_cases hlt : k < E.length
          · have hir := HIR.out k hlt
            have HC' := Kd.C_below HC.out HB
            obtain ⟨ad, ead, ha, hb⟩ := C_pair HC' k hlt
            have HA := Aside0.mk (any_step E k hlt)
            have HJ := Aside0.mk (joins_snoc f0 E k hlt)
            have HAN : Aside0 (loopE (E.getD k (0, 0)) = true → E.any loopE = true) := ⟨fun h => by
              rw [List.any_eq_true]
              refine ⟨_, ?_, h⟩
              rw [List.getD_eq_getElem?_getD, List.getElem?_eq_getElem hlt, Option.getD_some]
              exact List.getElem_mem hlt⟩
            cases ead
            generalize E.getD k (0, 0) = ab at *
            obtain ⟨a, b⟩ := ab
            simp only at ha hb
            simp only [inR, Bool.and_eq_true, decide_eq_true_eq] at hir
            obtain ⟨⟨⟨p1, p2⟩, p3⟩, p4⟩ := hir
            obtain ⟨a, rfl⟩ := Int.eq_ofNat_of_zero_le p1
            obtain ⟨b, rfl⟩ := Int.eq_ofNat_of_zero_le p2
            have han : a < n := by omega
            have hbn : b < n := by omega
            simp only [Int.toNat_natCast] at HJ
            clear HC' p1 p2 p3 p4
            by_cases q5 : a = b
            · have d6 : ((a : Int) == (b : Int)) = true := by simp [q5]
              have d7 : (a == b) = true := by simp [q5]
              obtain ⟨r1, r2, r3⟩ := HBad2.out (HAN.out d6)
              have R1 := Aside0.mk r1
              have R2 := Aside0.mk r2
              have R3 := Aside0.mk r3
              have z0 : wr.cell? ⟨w.heap.size, 0, none⟩ = some (.int .i64 0) := by simpa using blk_cell HZ'.out 0
              have z1 : wr.cell? ⟨w.heap.size, 1, none⟩ = some (.slice none 0 0) := by simpa using blk_cell HZ'.out 1
              have zf0 := blk_frozen HZ'.out 0
              have zf1 := blk_frozen HZ'.out 1
              clear r1 r2 r3 q5
              go_wp2_with fail
              go_quiet (fail)
              go_wp2_with fail
              have H8 := blk_set (blk_set (blk_drewN HZ'.out nq) 0 (.int .i64 0)) 1 (.slice none 0 0)
              refine bodyPost_ret (results_ct rfl _ _ w.heap.size 25 #[.int .i64 0, .slice none 0 0] (0, 0) _ (by simp) (by simpa using H8) Tryd.underlying25 rfl (by kernel_rfl)) rfl ?_
              exact ⟨_, by rw [R1.out, R2.out]; rfl, by rw [R3.out]; exact Kd.R_nil _ _ _ _ _, ((pw_below_drewN HB nq).setCell (by simp) _).setCell (by simp) _⟩
            · have d6 : ((a : Int) == (b : Int)) = false := by simp; omega
              have d7 : (a == b) = false := by simp; omega
              have hla : loopE ((a : Int), (b : Int)) = false := d6
              have HL2 : Aside0 ((E.take (k + 1)).any loopE = false) := ⟨by rw [HA.out, HL.out, hla]; rfl⟩
              have HNE := Aside0.mk q5
              clear q5 hla HAN
              have m1 : wr.cell? ⟨g, a, none⟩ = some (.slice (some ⟨g + 1 + a, 0, none⟩) n n) := (blk_cell HM'.out.1 a).trans (by rw [rowS_at _ _ _ _ han, if_pos han])
              have m2 : wr.cell? ⟨g, b, none⟩ = some (.slice (some ⟨g + 1 + b, 0, none⟩) n n) := (blk_cell HM'.out.1 b).trans (by rw [rowS_at _ _ _ _ hbn, if_pos hbn])
              have m3 : wr.cell? ⟨g + 1 + a, b, none⟩ = some (.bool ((joins f0 (E.take k) a).testBit b)) := (blk_cell (HM'.out.2 a han) b).trans (by rw [rowB_at _ b (by rw [bitRow_len]; exact hbn), bitRow_get _ _ _ hbn])
              have m4 : wr.cell? ⟨g + 1 + b, a, none⟩ = some (.bool ((joins f0 (E.take k) b).testBit a)) := (blk_cell (HM'.out.2 b hbn) a).trans (by rw [rowB_at _ a (by rw [bitRow_len]; exact han), bitRow_get _ _ _ han])
              have mf3 := blk_frozen (HM'.out.2 a han) b
              have mf4 := blk_frozen (HM'.out.2 b hbn) a
              have hne1 : ¬ (a = b) := HNE.out
              have hne2 : ¬ (b = a) := fun e => HNE.out e.symm
              go_wp2_with fail
              go_quiet (fail)
              go_wp2_with fail
              go_region
              go_wp2_with fail
              have hM9 : ∀ W : World, Mat W g n (joins f0 (E.take k)) → Mat ((W.setCell ⟨g + 1 + a, b, none⟩ (.bool true)).setCell ⟨g + 1 + b, a, none⟩ (.bool true)) g n (join (joins f0 (E.take k)) a b) := fun W h => Mat_put (Mat_put h a b han) b a hbn
              refine ⟨⟨k + 1, by go_num, by omega, ?_, ?_, HL2, ?_⟩, by simp [intOf]; omega⟩
              · exact blk_far (blk_far (blk_drewN HZ'.out _) (by simp; omega) _) (by simp; omega) _
              · rw [HJ.out]
                exact hM9 _ ⟨blk_drewN HM'.out.1 _, fun i hi => blk_drewN (HM'.out.2 i hi) _⟩
              · exact ((pw_below_drewN HB _).setCell (by simp; omega) _).setCell (by simp; omega) _
          · obtain rfl : k = E.length := by omega
            rw [List.take_length] at HM' HL
            obtain ⟨r1, r2, r3⟩ := HGood2.out HL.out
            have R1 := Aside0.mk r1
            have R2 := Aside0.mk r2
            have R3 := Aside0.mk r3
            clear r1 r2 r3
            go_wp2_with (go_at_call 43; go_must (refine (write_any (joins f0 E) n g n _ (by omega) HM'.out).mono ?_); go_must (rintro e w7 ⟨v7, rfl, H7, HB7⟩; obtain ⟨A7, c7, rfl, hc7, hC7⟩ := Kd.R_reads H7; have Z7 := blk_below HZ'.out HB7; have z0 : w7.cell? ⟨w.heap.size, 0, none⟩ = some (.int .i64 0) := (by simpa using blk_cell Z7 0); have z1 : w7.cell? ⟨w.heap.size, 1, none⟩ = some (.slice none 0 0) := (by simpa using blk_cell Z7 1); have zf0 := blk_frozen Z7 0; have zf1 := blk_frozen Z7 1; have Z7' := Aside0.mk Z7; clear Z7))
            have H8 := blk_set (blk_set Z7'.out 0 (.int .i64 n)) 1 (.slice A7 (edgesW (joins f0 E) n n).length c7)
            refine bodyPost_ret (results_ct rfl _ _ w.heap.size 25 #[.int .i64 n, .slice A7 (edgesW (joins f0 E) n n).length c7] (0, 0) _ (by simp) (by simpa using H8) Tryd.underlying25 rfl (by kernel_rfl)) rfl ?_
            refine ⟨_, by rw [R1.out, R2.out]; rfl, ?_, ((below_then HB HB.size HB7).setCell (by simp) _).setCell (by simp) _⟩
            rw [R3.out]
            exact Kd.R_set (Kd.R_set (Kd.R_lower H7 HB.size) Z7'.out (by decide) 0 _) (blk_set Z7'.out 0 _) (by decide) 1 _
theorem filter_upto (p : Nat → Bool) (n : Nat) (hn : n ≤ 64) (h : ∀ j, n ≤ j → p j = false) : (List.range 64).filter p = (List.range n).filter p := by
  obtain ⟨d, hd⟩ : ∃ d, 64 = n + d := ⟨64 - n, by omega⟩
  rw [hd, List.range_add, List.filter_append]
  have : (List.map (fun x => n + x) (List.range d)).filter p = [] := by
    rw [List.filter_eq_nil_iff]
    intro x hx
    obtain ⟨y, _, rfl⟩ := List.mem_map.1 hx
    rw [h _ (by omega)]
    simp
  rw [this, List.append_nil]
theorem part_row (f : Nat → Nat) (i n : Nat) (hn : n ≤ 64) (h : ∀ j, n ≤ j → (f i).testBit j = false) : partW f i n = rowE f i := by
  rw [partW, rowE, memI, mem, ← filter_upto (fun j => decide (i < j) && (f i).testBit j) n hn (fun j hj => by simp [h j hj]), List.filter_map, List.map_map, List.filter_filter]
  congr 1
  apply List.filter_congr
  intro x _
  simp
theorem edges_eq (f : Nat → Nat) (n : Nat) (hn : n ≤ 64) (h : ∀ i j, n ≤ j → (f i).testBit j = false) : ∀ i, edgesW f n i = edgesOf f i
  | 0 => rfl
  | i + 1 => by rw [edgesW, edgesOf, edges_eq f n hn h i, part_row f i n hn (h i)]
theorem join_bits (f : Nat → Nat) (n a b : Nat) (ha : a < n) (hb : b < n) (h : ∀ i j, n ≤ j → (f i).testBit j = false) (i j : Nat) (hj : n ≤ j) : (join f a b i).testBit j = false := by
  have e1 : (2 ^ b).testBit j = false := by rw [Nat.testBit_two_pow]; simp; omega
  have e2 : (2 ^ a).testBit j = false := by rw [Nat.testBit_two_pow]; simp; omega
  unfold join put
  split
  · split <;> simp [Nat.testBit_or, h _ j hj, e1, e2]
  · split <;> simp [Nat.testBit_or, h _ j hj, e1, e2]
theorem joins_bits (n : Nat) : ∀ (E : List (Int × Int)) (f : Nat → Nat), E.all (inR n) = true → (∀ i j, n ≤ j → (f i).testBit j = false) → ∀ i j, n ≤ j → (joins f E i).testBit j = false
  | [], f, _, h => h
  | e :: E, f, hE, h => by
    rw [List.all_cons, Bool.and_eq_true] at hE
    have h1 := hE.1
    simp only [inR, Bool.and_eq_true, decide_eq_true_eq] at h1
    exact joins_bits n E _ hE.2 (join_bits f n _ _ (by omega) (by omega) h)
theorem mk_edges (n : Int) (E : List (Int × Int)) : (if mkC n E = 0 then edgesW (joins f0 E) n.toNat n.toNat else []) = mkE n E := by
  rw [mkE]
  split
  · rename_i h
    have hn : ¬ (n < 0 ∨ 64 < n) := by
      intro q
      rw [mkC, if_pos q] at h
      cases h
    have hall : E.all (inR n) = true := by
      rw [mkC, if_neg hn] at h
      by_cases q : E.all (inR n) = true
      · exact q
      · rw [if_neg q] at h; cases h
    obtain ⟨n, rfl⟩ := Int.eq_ofNat_of_zero_le (show 0 ≤ n by omega)
    exact edges_eq _ _ (by omega) (joins_bits n E f0 hall (by intro i j _; simp [f0])) _
  · rfl
theorem refmake_any (n : Int) (E : List (Int × Int)) (A : Option Addr) (c : Nat) (w : World) (hE : KE.C w A E.length E) (hl : E.length ≤ 1000000) :
    Calls Tryd.prog 14 #[.int .i64 n, .slice A E.length c] w fun e w' => ∃ v, e = .returned (.tuple #[.agg #[.int .i64 (mkN n E), v], .int .i64 (mkC n E)]) ∧ Kd.R KE 46 w' w.heap.size (fun _ => True) v (mkE n E) ∧ Below w.heap.size w w' := by
  rw [← mk_edges]
  exact rmake_any n E A c w hE hl
end Go.Proofs.YtkkfoonaobehaaaDoor.Ref
