import Derived.Test.YtkkfoonaobehaaaDoorTri
import Derived.Test.YtkkfoonaobehaaaDoorAw
import Derived.Laws.CopyOwn
import Derived.StillTailTactics
namespace Go.Proofs.YtkkfoonaobehaaaDoor.Fill
open Go.RowKit Go.Proofs.YtkkfoonaobehaaaDoorW.PrintWords Go.Proofs.YtkkfoonaobehaaaDoor.Bits Go.Proofs.YtkkfoonaobehaaaDoor.Low Go.Proofs.YtkkfoonaobehaaaDoor.Sets Go.Proofs.YtkkfoonaobehaaaDoor.Read Go.Proofs.YtkkfoonaobehaaaDoor.Search Go.Proofs.YtkkfoonaobehaaaDoor.Earl Go.Proofs.YtkkfoonaobehaaaDoor.Ext Go.Proofs.YtkkfoonaobehaaaDoor.Tr Go.Proofs.YtkkfoonaobehaaaDoor.Ref Go.Proofs.YtkkfoonaobehaaaDoor.GrP Go.Proofs.YtkkfoonaobehaaaDoor.Tri
set_option maxHeartbeats 1600000
set_option maxRecDepth 100000
set_option linter.unusedVariables false
set_option linter.unusedSimpArgs false
theorem Mat_congr {w : World} {g n : Nat} {f f' : Nat → Nat} (h : Mat w g n f) (e : ∀ i, i < n → ∀ j, j < n → (f i).testBit j = (f' i).testBit j) : Mat w g n f' := by
  refine ⟨h.1, fun i hi => ?_⟩
  have : bitRow (f' i) n = bitRow (f i) n := by
    unfold bitRow
    apply List.map_congr_left
    intro j hj
    exact (e i hi j (by simpa using hj)).symm
  rw [this]
  exact h.2 i hi
theorem Mat_setRow {w : World} {g n : Nat} {f : Nat → Nat} (h : Mat w g n f) (i x : Nat) (hi : i < n) : Mat (w.setRow (g + 1 + i) (rowB (bitRow x n))) g n (put f i x) := by
  refine ⟨by rw [setRow_other _ _ _ _ (by omega)]; exact h.1, fun k hk => ?_⟩
  by_cases e : k = i
  · subst e
    rw [setRow_heap _ _ _ _ _ _ (h.2 k hk)]
    simp [put]
  · rw [setRow_other _ _ _ _ (by omega), h.2 k hk]
    simp [put, e]
theorem Mat_drew {w : World} {g n : Nat} {f : Nat → Nat} (h : Mat w g n f) : Mat w.drew g n f := ⟨blk_drew h.1, fun i hi => blk_drew (h.2 i hi)⟩
theorem Mat_drewN {w : World} {g n : Nat} {f : Nat → Nat} (h : Mat w g n f) (m : Nat) : Mat (w.drewN m) g n f := ⟨blk_drewN h.1 m, fun i hi => blk_drewN (h.2 i hi) m⟩
/-- How many of the k first are adjacent and not gone. -/
def cntF (u d k : Nat) : Nat := ((List.range k).filter fun x => u.testBit x && !d.testBit x).length
theorem cntF_step (u d k : Nat) : cntF u d (k + 1) = cntF u d k + if u.testBit k = true ∧ d.testBit k = false then 1 else 0 := by
  unfold cntF
  rw [List.range_succ, List.filter_append, List.length_append]
  cases e1 : u.testBit k <;> cases e2 : d.testBit k <;> simp [List.filter_cons, e1, e2]
theorem cntF_le (u d k : Nat) : cntF u d k ≤ k := by
  have := List.length_filter_le (fun x => u.testBit x && !d.testBit x) (List.range k)
  simpa [cntF] using this
theorem cntF_full {u d n : Nat} (hn : n ≤ 64) (hu : ∀ j, u.testBit j = true → j < n) : cntF u d n = pc (andn u d) := by
  unfold cntF pc mem
  rw [filter_upto (andn u d).testBit n hn (fun j hj => by
    rw [andn_bit]
    cases e : u.testBit j
    · rfl
    · have := hu j e; omega)]
  congr 1
  apply List.filter_congr
  intro x _
  rw [andn_bit]
/-- The least count as the reference holds it. -/
def lst (n : Nat) (b : Int) : Int := if b = 65 then (n : Int) + 1 else b
theorem lst_lt {n p : Nat} {b : Int} (hn : n ≤ 64) (hp : p ≤ n) : ((p : Int) < lst n b ↔ (p : Int) < b) := by
  unfold lst
  split
  · omega
  · exact Iff.rfl
/-- The pairs that have been looked at. -/
def Seen (a b i j : Nat) : Prop := (max i j < a ∨ (max i j = a ∧ min i j < b)) ∧ i ≠ j
/-- What stands in the table while the pairs are joined. -/
def FInv (F G : Nat → Nat) (d v n a b : Nat) : Prop := ∀ i j, i < n → j < n → ((G i).testBit j = true ↔ (F i).testBit j = true ∨ (((F v).testBit i = true ∧ d.testBit i = false) ∧ ((F v).testBit j = true ∧ d.testBit j = false) ∧ Seen a b i j))
theorem finv_row {F G : Nat → Nat} {d v n a b : Nat} (hv : (F v).testBit v = false) (hvn : v < n) (h : FInv F G d v n a b) {x : Nat} (hx : x < n) : (G v).testBit x = (F v).testBit x := by
  rw [Bool.eq_iff_iff, h v x hvn hx]
  constructor
  · rintro (q | ⟨⟨q, _⟩, _⟩)
    · exact q
    · rw [hv] at q; cases q
  · exact .inl
theorem finv_next {F G : Nat → Nat} {d v n a : Nat} (h : FInv F G d v n a a) : FInv F G d v n (a + 1) 0 := by
  intro i j hi hj
  rw [h i j hi hj]
  have : Seen a a i j ↔ Seen (a + 1) 0 i j := by unfold Seen; omega
  rw [this]
theorem finv_no {F G : Nat → Nat} {d v n a b : Nat} (hb : b < a) (h : FInv F G d v n a b) (hno : ¬ (((F v).testBit a = true ∧ d.testBit a = false) ∧ ((F v).testBit b = true ∧ d.testBit b = false))) : FInv F G d v n a (b + 1) := by
  intro i j hi hj
  rw [h i j hi hj]
  constructor
  · rintro (q | ⟨q1, q2, q3⟩)
    · exact .inl q
    · exact .inr ⟨q1, q2, by unfold Seen at *; omega⟩
  · rintro (q | ⟨q1, q2, q3⟩)
    · exact .inl q
    · by_cases e : Seen a b i j
      · exact .inr ⟨q1, q2, e⟩
      · exfalso
        have : (i = a ∧ j = b) ∨ (i = b ∧ j = a) := by unfold Seen at *; omega
        rcases this with ⟨rfl, rfl⟩ | ⟨rfl, rfl⟩
        · exact hno ⟨q1, q2⟩
        · exact hno ⟨q2, q1⟩
theorem finv_yes {F G : Nat → Nat} {d v n a b : Nat} (hb : b < a) (han : a < n) (h : FInv F G d v n a b) (hy : ((F v).testBit a = true ∧ d.testBit a = false) ∧ ((F v).testBit b = true ∧ d.testBit b = false)) : FInv F (join G a b) d v n a (b + 1) := by
  intro i j hi hj
  rw [join_bit, h i j hi hj]
  constructor
  · rintro ((q | ⟨q1, q2, q3⟩) | ⟨rfl, rfl⟩ | ⟨rfl, rfl⟩)
    · exact .inl q
    · exact .inr ⟨q1, q2, by unfold Seen at *; omega⟩
    · exact .inr ⟨hy.1, hy.2, by unfold Seen; omega⟩
    · exact .inr ⟨hy.2, hy.1, by unfold Seen; omega⟩
  · rintro (q | ⟨q1, q2, q3⟩)
    · exact .inl (.inl q)
    · by_cases e : Seen a b i j
      · exact .inl (.inr ⟨q1, q2, e⟩)
      · right
        unfold Seen at *
        omega
theorem finv_start (F : Nat → Nat) (d v n : Nat) : FInv F F d v n 0 0 := by
  intro i j _ _
  constructor
  · exact .inl
  · rintro (q | ⟨_, _, q⟩)
    · exact q
    · unfold Seen at q; omega
theorem finv_end {F G : Nat → Nat} {d v n : Nat} (h : FInv F G d v n n 0) (g : Gr n F) (hn : n ≤ 64) : ∀ i, i < n → ∀ j, j < n → (G i).testBit j = (joinsTo (mem (andn (F v) d)) F (mem (andn (F v) d)).length i).testBit j := by
  intro i hi j hj
  rw [Bool.eq_iff_iff, h i j hi hj, ChB.joinsTo_bit _ _ (ChB.mem_nodup _) i j _ (Nat.le_refl _), List.take_length, mem_mem, mem_mem, andn_bit, andn_bit, Bool.and_eq_true, Bool.and_eq_true]
  have hs : Seen n 0 i j ↔ i ≠ j := by unfold Seen; omega
  rw [hs]
  constructor
  · rintro (q | ⟨⟨q1, q2⟩, ⟨q3, q4⟩, q5⟩)
    · exact .inl q
    · exact .inr ⟨⟨by omega, q1, by rw [q2]; rfl⟩, ⟨by omega, q3, by rw [q4]; rfl⟩, q5⟩
  · rintro (q | ⟨⟨_, q1, q2⟩, ⟨_, q3, q4⟩, q5⟩)
    · exact .inl q
    · exact .inr ⟨⟨q1, by simpa using q2⟩, ⟨q3, by simpa using q4⟩, q5⟩
theorem fill_any (f : Nat → Nat) (n g cc : Nat) (w : World) (hn : n ≤ 64) (gr : Gr n f) (hf : Bd f) (hM : Mat w g n f) :
    Calls Tryd.prog 45 #[.slice (some ⟨g, 0, none⟩) n cc] w fun e w' => e = .returned (.slice (some ⟨w.heap.size, 0, none⟩) n n) ∧ Mat w' w.heap.size n (extF f n) ∧ Below w.heap.size w w' := by
  have HM := Aside0.mk hM
  have hglt := blk_lt hM.1
  have hmk : ∀ W : World, (Instr.makeSlice 61 (.int .i64 (n : Int)) (.int .i64 (n : Int))).run Tryd.prog W = .ok (.slice (some ⟨W.heap.size, 0, none⟩) n n) (W.alloc (.cells (rowB (bitRow 0 n)) 4)) := by
    intro W
    rw [bitRow_zero, ← rowB_zero]
    exact print_make_of (P := Tryd.prog) 61 4 (.bool false) 1 Tryd.underlying61 (by kernel_rfl) rfl (by decide) n (by omega) W
  have HMK := Aside0.mk hmk
  clear hM hmk
  go_enter Tryd.func45, Tryd.ntmps45
  go_wp2_with (go_at_call 42; go_must (refine (blank_any n hn _).mono ?_); rintro e w1 ⟨rfl, HM1, HB1⟩)
  have HM1 := Aside0.mk HM1
  have HBw1 := Aside0.mk HB1
  obtain ⟨go, hgo⟩ : ∃ go, go = w.heap.size := ⟨_, rfl⟩
  have HGO := Aside0.mk hgo
  rw [← hgo] at HM1 HBw1 hglt ⊢
  clear hgo HB1
  go_loopw [4] (fun i wr => ∃ k : Nat, i = .int .i64 k ∧ k ≤ n ∧ Aside0 (Mat wr go n (fun x => if x < k then f x else 0)) ∧ Below go w wr) (fun i _ => n - (intOf i).toNat)
  case atStart => exact ⟨0, rfl, by omega, ⟨Mat_congr HM1.out (fun i _ j _ => by simp [f0])⟩, HBw1.out⟩
  case round =>
    obtain ⟨k, rfl, hk, HMO, hB⟩ := hrel
    by_cases hlt : k < n
    · have HMs : Aside0 (Mat wr g n f) := ⟨Mat_below HM.out (by rw [HGO.out] at hB; exact hB)⟩
      have hr1 := mat_row HMO.out hlt
      have hr2 := mat_row HMs.out hlt
      have hcell : ∀ (j : Nat) v, (rowB (bitRow (f k) n)).toList[j]? = some v → wr.cell? ⟨g + 1 + k, j, none⟩ = some v := fun j v hv => by
        rw [blk_cell (HMs.out.2 k hlt) j]; simpa using hv
      have HCE := Aside0.mk hcell
      have hlen : (rowB (bitRow (f k) n)).toList.length = n := by simp [rowB, bitRow_len]
      have HLE := Aside0.mk hlen
      clear hcell hlen
      go_wp2_with fail
      go_still_tail 8, (by kernel_rfl)
      change wpList _ _ _ _ _ wr.drew
      have HM5 := Aside0.mk (Mat_drew HMO.out)
      have hcur : wr.drew.heap[go + 1 + k]? = some (.cells (rowB (bitRow 0 n)) 4 (0, 0)) := by
        have := HM5.out.2 k hlt
        simpa using this
      have hfin : ((rowB (bitRow 0 n)).toList.take 0 ++ ((rowB (bitRow (f k) n)).toList ++ (rowB (bitRow 0 n)).toList.drop (0 + (rowB (bitRow (f k) n)).toList.length))).toArray = rowB (bitRow (f k) n) := by
        rw [HLE.out, List.drop_of_length_le (by simp [rowB, bitRow_len])]
        simp
      have HFN := Aside0.mk hfin
      refine wpList_copy_own rfl (.tmp 26) (.tmp 30) 61 61 rfl 4 Tryd.underlying61 (by kernel_rfl) (go + 1 + k) 0 n n ⟨g + 1 + k, 0, none⟩ n n (by simp [Act.eval]) (by simp [Act.eval]) (rowB (bitRow 0 n)) 4 hcur (rowB (bitRow (f k) n)).toList (by rw [HLE.out]; simp) (fun j v hv => by rw [Go.Proofs.YtkkfoonaobehaaaDoor.Aw.add0]; exact HCE.out j v hv) (by rw [HLE.out]; simp [rowB, bitRow_len]) (fun v hv => by
        simp only [rowB, List.toList_toArray, List.mem_map] at hv
        obtain ⟨b, _, rfl⟩ := hv
        rfl) ?_
      rw [HFN.out]
      have HM6 : Aside0 (Mat (wr.drew.setRow (go + 1 + k) (rowB (bitRow (f k) n))) go n (fun x => if x < k + 1 then f x else 0)) := ⟨Mat_congr (Mat_setRow HM5.out k (f k) hlt) (fun i _ j _ => by
        by_cases e : i = k
        · subst e; simp [put]
        · simp only [put, if_neg e]
          by_cases e2 : i < k
          · simp [e2, show i < k + 1 by omega]
          · simp [e2, show ¬ i < k + 1 by omega])⟩
      have HB6 : Below go w (wr.drew.setRow (go + 1 + k) (rowB (bitRow (f k) n))) := below_setRow hB.drew (by omega) _
      clear hcur hfin hr1 hr2
      generalize wr.drew.setRow (go + 1 + k) (rowB (bitRow (f k) n)) = w6 at *
      go_wp2_with fail
      exact ⟨⟨k + 1, by go_num, by omega, HM6, HB6⟩, by simp [intOf]; omega⟩
    · obtain rfl : k = n := by omega
      have hmk := HMK.out
      have HMX : Aside0 (Mat wr go k f) := ⟨Mat_congr HMO.out (fun i hi j _ => by rw [if_pos hi])⟩
      clear HMO
      go_wp2_with fail
      obtain ⟨w2, rfl⟩ : ∃ w2 : World, w2 = wr := ⟨_, rfl⟩
      obtain ⟨gs, hgs⟩ : ∃ gs, gs = w2.heap.size := ⟨_, rfl⟩
      have HST := Aside0.mk (blk_new w2 (.cells (rowB (bitRow 0 k)) 4))
      have hgogs : go + k < gs := by
        rw [hgs]
        by_cases h0 : k = 0
        · have := blk_lt HMX.out.1; omega
        · have := blk_lt (HMX.out.2 (k - 1) (by omega)); omega
      have HM7 : Aside0 (Mat (w2.alloc (.cells (rowB (bitRow 0 k)) 4)) go k f) := ⟨Mat_below HMX.out ((Below.refl _ _).alloc (Nat.le_refl _) _)⟩
      have HB7 := Aside0.mk (hB.alloc (by have := blk_lt HMX.out.1; omega) (.cells (rowB (bitRow 0 k)) 4))
      rw [← hgs] at HST ⊢
      clear hmk hgs
      go_loopw [6, 7, 8, 9, 10, 11, 12, 13] (fun l _ _ _ _ _ _ _ wr => ∃ r : Nat, l = .int .i64 (k - r : Nat) ∧ r ≤ k ∧ Aside0 (Mat wr go k (runE f k r).f) ∧ BRow wr gs k (runE f k r).gone ∧ Below go w wr) (fun l _ _ _ _ _ _ _ _ => (intOf l).toNat)
      case atStart => exact ⟨0, rfl, by omega, HM7, HST.out, HB7.out⟩
      case round =>
        obtain ⟨r, rfl, hr, HMR, hRW, hB⟩ := hrel
        have HRW := Aside0.mk hRW
        clear hRW
        by_cases hrk : r < k
        · obtain ⟨i1, i2, i3, i4, i5⟩ := runE_inv f hf k hn r hr
          have HV := Aside0.mk (runE_pick0 k r (runE f k r) hrk i1 i2)
          have hgr := (ChB.ext_inv hn hf gr r hr).gr
          have HGRs := Aside0.mk hgr
          have HRS : Aside0 (runE f k (r + 1) = stepE k (runE f k r)) := ⟨rfl⟩
          generalize runE f k r = s at *
          obtain ⟨l, hl⟩ : ∃ l, k - r = l + 1 := ⟨k - r - 1, by omega⟩
          rw [hl]
          clear i1 i2 i3 i4 i5 hgr
          go_wp2_with fail
          obtain ⟨wo, rfl⟩ : ∃ wo : World, wo = wr := ⟨_, rfl⟩
          go_loop [7, 8, 9, 10, 11] (fun b m i _ _ => ∃ j : Nat, i = .int .i64 j ∧ j ≤ k ∧ b = .int .i64 (minTo s.f s.gone j).1 ∧ m = .int .i64 (lst k (minTo s.f s.gone j).2)) (fun _ _ i _ _ => k - (intOf i).toNat)
          case atStart => exact ⟨0, rfl, by omega, rfl, by simp [minTo, lst]⟩
          case round =>
            obtain ⟨j, rfl, hj, rfl, rfl⟩ := hrel
            obtain ⟨p1, p2, p3, p4⟩ := minTo_bd s.f s.gone j
            by_cases hjn : j < k
            · have HQ := Aside0.mk (minTo_succ s.f s.gone j)
              generalize minTo s.f s.gone j = bm at *
              obtain ⟨bb, mm⟩ := bm
              simp only at p1 p2 p3 p4
              obtain ⟨lm, hlm⟩ : ∃ lm, lm = lst k mm := ⟨_, rfl⟩
              have HLM := Aside0.mk hlm
              have hlb : 0 ≤ lm ∧ lm ≤ 65 := by rw [hlm]; unfold lst; split <;> omega
              obtain ⟨hlb1, hlb2⟩ := hlb
              rw [← hlm]
              clear hlm
              go_wp2_with fail
              go_loop [10, 11] (fun nn x => ∃ q : Nat, x = .int .i64 q ∧ q ≤ k ∧ nn = .int .i64 (cntF (s.f j) s.gone q)) (fun _ x => k - (intOf x).toNat)
              case atStart => exact ⟨0, rfl, by omega, by simp [cntF]⟩
              case round =>
                obtain ⟨q, rfl, hq, rfl⟩ := hrel
                have hcl := cntF_le (s.f j) s.gone q
                by_cases hqk : q < k
                · have HCS := Aside0.mk (cntF_step (s.f j) s.gone q)
                  have c1 := mat_row HMR.out hjn
                  have c2 := mat_at HMR.out hjn hqk
                  have c3 := HRW.out.at_ hqk
                  generalize cntF (s.f j) s.gone q = ct at *
                  cases h1 : (s.f j).testBit q with
                  | false =>
                    rw [h1] at c2 HCS
                    have HCS2 : Aside0 (cntF (s.f j) s.gone (q + 1) = ct) := ⟨by rw [HCS.out]; simp⟩
                    clear h1 HCS
                    go_wp2_with fail
                    exact ⟨⟨q + 1, by go_num, by omega, by rw [HCS2.out]⟩, by simp [intOf]; omega⟩
                  | true =>
                    cases h2 : s.gone.testBit q with
                    | true =>
                      rw [h1] at c2 HCS
                      rw [h2] at c3 HCS
                      have HCS2 : Aside0 (cntF (s.f j) s.gone (q + 1) = ct) := ⟨by rw [HCS.out]; simp⟩
                      clear h1 h2 HCS
                      go_wp2_with fail
                      exact ⟨⟨q + 1, by go_num, by omega, by rw [HCS2.out]⟩, by simp [intOf]; omega⟩
                    | false =>
                      rw [h1] at c2 HCS
                      rw [h2] at c3 HCS
                      have HCS2 : Aside0 (cntF (s.f j) s.gone (q + 1) = ct + 1) := ⟨by rw [HCS.out]; simp⟩
                      clear h1 h2 HCS
                      go_wp2_with fail
                      exact ⟨⟨q + 1, by go_num, by omega, by rw [HCS2.out]; go_num⟩, by simp [intOf]; omega⟩
                · obtain rfl : q = k := by omega
                  have hcf := cntF_full (d := s.gone) hn (fun x hx => (HGRs.out.lt j x hx).2)
                  have hlt2 := lst_lt (b := mm) hn hcl
                  rw [← HLM.out] at hlt2
                  have c3 := HRW.out.at_ hjn
                  have HQ2 : Aside0 (minTo s.f s.gone (j + 1) = if s.gone.testBit j = false ∧ (cntF (s.f j) s.gone q : Int) < mm then ((j : Int), (cntF (s.f j) s.gone q : Int)) else (bb, mm)) := ⟨by rw [HQ.out, fewer, hcf]⟩
                  generalize cntF (s.f j) s.gone q = p at *
                  have HP64 : Aside0 (lst q (p : Int) = (p : Int)) := ⟨by unfold lst; rw [if_neg (by omega)]⟩
                  cases h1 : s.gone.testBit j with
                  | true =>
                    rw [h1] at c3
                    have HQ3 : Aside0 (minTo s.f s.gone (j + 1) = (bb, mm)) := ⟨by rw [HQ2.out, if_neg (fun z => by rw [h1] at z; exact absurd z.1 (by simp))]⟩
                    clear h1 HQ HQ2 hlt2 hcf
                    go_wp2_with fail
                    exact ⟨⟨.int .i64 bb, .int .i64 lm, .int .i64 ((j : Int) + 1), ⟨j + 1, by go_num, by omega, by rw [HQ3.out], by rw [HQ3.out, HLM.out]⟩, rfl, rfl, rfl⟩, by simp [intOf]; omega⟩
                  | false =>
                    rw [h1] at c3
                    by_cases hpm : (p : Int) < lm
                    · have d1 : decide ((p : Int) < lm) = true := by simpa using hpm
                      have HQ3 : Aside0 (minTo s.f s.gone (j + 1) = ((j : Int), (p : Int))) := ⟨by rw [HQ2.out, if_pos ⟨h1, hlt2.1 hpm⟩]⟩
                      clear h1 HQ HQ2 hlt2 hcf hpm
                      go_wp2_with fail
                      exact ⟨⟨.int .i64 (j : Int), .int .i64 (p : Int), .int .i64 ((j : Int) + 1), ⟨j + 1, by go_num, by omega, by rw [HQ3.out], by rw [HQ3.out, HP64.out]⟩, rfl, rfl, rfl⟩, by simp [intOf]; omega⟩
                    · have d1 : decide ((p : Int) < lm) = false := by simpa using hpm
                      have HQ3 : Aside0 (minTo s.f s.gone (j + 1) = (bb, mm)) := ⟨by rw [HQ2.out, if_neg (fun z => hpm (hlt2.2 z.2))]⟩
                      clear h1 HQ HQ2 hlt2 hcf hpm
                      go_wp2_with fail
                      exact ⟨⟨.int .i64 bb, .int .i64 lm, .int .i64 ((j : Int) + 1), ⟨j + 1, by go_num, by omega, by rw [HQ3.out], by rw [HQ3.out, HLM.out]⟩, rfl, rfl, rfl⟩, by simp [intOf]; omega⟩
            · obtain rfl : j = k := by omega
              obtain ⟨v, hv, hvn, hvd, _⟩ := HV.out
              have HSV : Aside0 (stepE j s = { f := joinsTo (mem (andn (s.f v) s.gone)) s.f (mem (andn (s.f v) s.gone)).length, gone := s.gone ||| 2 ^ v, out := s.out ++ [v] }) := ⟨by simp only [stepE, hv, Int.toNat_natCast]⟩
              rw [hv]
              have hvv : (s.f v).testBit v = false := by
                cases e : (s.f v).testBit v
                · rfl
                · exact absurd rfl (HGRs.out.ne v v e)
              have HVV := Aside0.mk hvv
              generalize lst j (minTo s.f s.gone j).2 = lm at *
              clear hv hvd hvv p1 p2 p3 p4
              go_wp2_with fail
              go_loopw [12, 13] (fun a _ wr => ∃ (q : Nat) (G : Nat → Nat), a = .int .i64 q ∧ q ≤ j ∧ Aside0 (Mat wr go j G) ∧ Aside0 (FInv s.f G s.gone v j q 0) ∧ BRow wr gs j s.gone ∧ Below go w wr) (fun a _ _ => j - (intOf a).toNat)
              case atStart => exact ⟨0, s.f, rfl, by omega, HMR, ⟨finv_start _ _ _ _⟩, HRW.out, hB⟩
              case round =>
                obtain ⟨a, G, rfl, ha, HMG, HFI, hRG, hBG⟩ := hrel
                have HRG := Aside0.mk hRG
                clear hRG
                by_cases haj : a < j
                · go_wp2_with fail
                  go_loopw [13] (fun b wr => ∃ (q : Nat) (G : Nat → Nat), b = .int .i64 q ∧ q ≤ a ∧ Aside0 (Mat wr go j G) ∧ Aside0 (FInv s.f G s.gone v j a q) ∧ BRow wr gs j s.gone ∧ Below go w wr) (fun b _ => a - (intOf b).toNat)
                  case atStart => exact ⟨0, G, rfl, by omega, HMG, HFI, HRG.out, hBG⟩
                  case round =>
                    obtain ⟨b, G, rfl, hb, HMG, HFI, hRG, hBG⟩ := hrel
                    have HRG := Aside0.mk hRG
                    clear hRG
                    by_cases hba : b < a
                    · have hbj : b < j := by omega
                      have c1 := HRG.out.at_ haj
                      have c2 := HRG.out.at_ hbj
                      have c3 := mat_row HMG.out hvn
                      have c4 := mat_at HMG.out hvn haj
                      have c5 := mat_at HMG.out hvn hbj
                      rw [finv_row HVV.out hvn HFI.out haj] at c4
                      rw [finv_row HVV.out hvn HFI.out hbj] at c5
                      have HNO := Aside0.mk (fun h => finv_no hba HFI.out h)
                      cases h1 : s.gone.testBit a with
                      | true =>
                        have HN2 := Aside0.mk (HNO.out (fun z => by rw [h1] at z; exact absurd z.1.2 (by simp)))
                        rw [h1] at c1
                        clear h1 HNO
                        go_wp2_with fail
                        exact ⟨⟨b + 1, G, by go_num, by omega, HMG, HN2, HRG.out, hBG⟩, by simp [intOf]; omega⟩
                      | false =>
                        cases h2 : s.gone.testBit b with
                        | true =>
                          have HN2 := Aside0.mk (HNO.out (fun z => by rw [h2] at z; exact absurd z.2.2 (by simp)))
                          rw [h1] at c1
                          rw [h2] at c2
                          clear h1 h2 HNO
                          go_wp2_with fail
                          exact ⟨⟨b + 1, G, by go_num, by omega, HMG, HN2, HRG.out, hBG⟩, by simp [intOf]; omega⟩
                        | false =>
                          cases h3 : (s.f v).testBit a with
                          | false =>
                            have HN2 := Aside0.mk (HNO.out (fun z => by rw [h3] at z; exact absurd z.1.1 (by simp)))
                            rw [h1] at c1
                            rw [h2] at c2
                            rw [h3] at c4
                            clear h1 h2 h3 HNO
                            go_wp2_with fail
                            exact ⟨⟨b + 1, G, by go_num, by omega, HMG, HN2, HRG.out, hBG⟩, by simp [intOf]; omega⟩
                          | true =>
                            cases h4 : (s.f v).testBit b with
                            | false =>
                              have HN2 := Aside0.mk (HNO.out (fun z => by rw [h4] at z; exact absurd z.2.1 (by simp)))
                              rw [h1] at c1
                              rw [h2] at c2
                              rw [h3] at c4
                              rw [h4] at c5
                              clear h1 h2 h3 h4 HNO
                              go_wp2_with fail
                              exact ⟨⟨b + 1, G, by go_num, by omega, HMG, HN2, HRG.out, hBG⟩, by simp [intOf]; omega⟩
                            | true =>
                              have HY := Aside0.mk (finv_yes hba haj HFI.out ⟨⟨h3, h1⟩, h4, h2⟩)
                              rw [h1] at c1
                              rw [h2] at c2
                              rw [h3] at c4
                              rw [h4] at c5
                              clear h1 h2 h3 h4 HNO
                              have m1 := mat_row HMG.out haj
                              have m2 := mat_row HMG.out hbj
                              have m3 := mat_at HMG.out haj hbj
                              have m4 := mat_at HMG.out hbj haj
                              have mf3 := blk_frozen (HMG.out.2 a haj) b
                              have mf4 := blk_frozen (HMG.out.2 b hbj) a
                              have hne1 : ¬ (a = b) := by omega
                              have hne2 : ¬ (b = a) := by omega
                              have hM9 : ∀ W : World, Mat W go j G → Mat ((W.setCell ⟨go + 1 + a, b, none⟩ (.bool true)).setCell ⟨go + 1 + b, a, none⟩ (.bool true)) go j (join G a b) := fun W h => Mat_put (Mat_put h a b haj) b a hbj
                              have HM9 := Aside0.mk hM9
                              clear hM9
                              go_wp2_with fail
                              go_region
                              go_wp2_with fail
                              refine ⟨⟨b + 1, join G a b, by go_num, by omega, ⟨Mat_drew (HM9.out wr HMG.out)⟩, HY, ?_, ?_⟩, by simp [intOf]; omega⟩
                              · exact blk_drew (blk_far (blk_far HRG.out (by simp; omega) _) (by simp; omega) _)
                              · exact ((hBG.setCell (by simp; omega) _).setCell (by simp; omega) _).drew
                    · obtain rfl : b = a := by omega
                      have HN2 := Aside0.mk (finv_next HFI.out)
                      go_wp2_with fail
                      exact ⟨⟨b + 1, G, by go_num, by omega, HMG, HN2, HRG.out, hBG⟩, by simp [intOf]; omega⟩
                · obtain rfl : a = j := by omega
                  have HM8 : Aside0 (Mat wr go a (runE f a (r + 1)).f) := ⟨by rw [HRS.out, HSV.out]; exact Mat_congr HMG.out (finv_end HFI.out HGRs.out hn)⟩
                  have c1 := HRG.out.at_ hvn
                  have hfz := blk_frozen HRG.out v
                  have HU3 : Aside0 (BRow (wr.setCell ⟨gs, v, none⟩ (.bool true)) gs a (runE f a (r + 1)).gone) := ⟨by
                    have := blk_set HRG.out v (.bool true)
                    rw [rowB_set, bitRow_set] at this
                    rw [HRS.out, HSV.out]
                    exact this⟩
                  have HM9 : Aside0 (Mat (wr.setCell ⟨gs, v, none⟩ (.bool true)) go a (runE f a (r + 1)).f) := ⟨⟨blk_far HM8.out.1 (by simp; omega) _, fun i hi => blk_far (HM8.out.2 i hi) (by simp; omega) _⟩⟩
                  clear HMG HFI
                  go_wp2_with fail
                  exact ⟨⟨r + 1, by first | (rw [show a - (r + 1) = l by omega]; go_num) | (rw [show a - (r + 1) = l by omega]), by omega, HM9, HU3.out, hBG.setCell (by simp; omega) _⟩, by simp [intOf]⟩
        · obtain rfl : r = k := by omega
          have HME : Aside0 (Mat wr go r (extF f r)) := ⟨HMR.out⟩
          rw [Nat.sub_self]
          clear HMR
          go_wp2_with fail
          go_ret
          rw [HGO.out] at HME hB ⊢
          exact ⟨rfl, HME.out, hB⟩
end Go.Proofs.YtkkfoonaobehaaaDoor.Fill
