import Derived.Test.YtkkfoonaobehaaaDoorRSea
namespace Go.Proofs.YtkkfoonaobehaaaDoor.Tri
open Go.RowKit Go.Proofs.YtkkfoonaobehaaaDoorW.PrintWords Go.Proofs.YtkkfoonaobehaaaDoor.Bits Go.Proofs.YtkkfoonaobehaaaDoor.Low Go.Proofs.YtkkfoonaobehaaaDoor.Sets Go.Proofs.YtkkfoonaobehaaaDoor.Search Go.Proofs.YtkkfoonaobehaaaDoor.Tr Go.Proofs.YtkkfoonaobehaaaDoor.Ref
set_option maxHeartbeats 1600000
set_option maxRecDepth 100000
set_option linter.unusedVariables false
set_option linter.unusedSimpArgs false
/-- The pair a, b does not speak against i. -/
def Good (f : Nat → Nat) (d i a b : Nat) : Prop := d.testBit a = false → d.testBit b = false → (f i).testBit a = true → (f i).testBit b = true → (f a).testBit b = true
def Simp (f : Nat → Nat) (n d i : Nat) : Prop := ∀ a, a < n → ∀ b, b < a → Good f d i a b
noncomputable def simpB (f : Nat → Nat) (n d i : Nat) : Bool := @decide (Simp f n d i) (Classical.propDecidable _)
theorem simpB_iff (f : Nat → Nat) (n d i : Nat) : simpB f n d i = true ↔ Simp f n d i := by
  unfold simpB
  exact @decide_eq_true_iff _ (Classical.propDecidable _)
/-- A row of bools in memory. -/
def BRow (w : World) (g n d : Nat) : Prop := w.heap[g]? = some (.cells (rowB (bitRow d n)) 4 (0, 0))
theorem BRow.at_ {w : World} {g n d : Nat} (h : BRow w g n d) {j : Nat} (hj : j < n) : w.cell? ⟨g, j, none⟩ = some (.bool (d.testBit j)) := (blk_cell h j).trans (by rw [rowB_at _ j (by rw [bitRow_len]; exact hj), bitRow_get _ _ _ hj])
theorem BRow.below {w w1 : World} {g n d : Nat} (h : BRow w g n d) (hb : Below w.heap.size w w1) : BRow w1 g n d := blk_below h hb
theorem mat_row {w : World} {g n : Nat} {f : Nat → Nat} (h : Mat w g n f) {i : Nat} (hi : i < n) : w.cell? ⟨g, i, none⟩ = some (.slice (some ⟨g + 1 + i, 0, none⟩) n n) := (blk_cell h.1 i).trans (by rw [rowS_at _ _ _ _ hi, if_pos hi])
theorem mat_at {w : World} {g n : Nat} {f : Nat → Nat} (h : Mat w g n f) {i j : Nat} (hi : i < n) (hj : j < n) : w.cell? ⟨g + 1 + i, j, none⟩ = some (.bool ((f i).testBit j)) := (blk_cell (h.2 i hi) j).trans (by rw [rowB_at _ j (by rw [bitRow_len]; exact hj), bitRow_get _ _ _ hj])
theorem simp_any (f : Nat → Nat) (n g gg cc cg d i : Nat) (w : World) (hn : n ≤ 64) (hi : i < n) (hM : Mat w g n f) (hD : BRow w gg n d) :
    Calls Tryd.prog 63 #[.slice (some ⟨g, 0, none⟩) n cc, .slice (some ⟨gg, 0, none⟩) n cg, .int .i64 i] w fun e w' => e = .returned (.bool (simpB f n d i)) ∧ w' = w := by
  have HM := Aside0.mk hM
  have HD := Aside0.mk hD
  clear hM hD
  obtain ⟨r, hr⟩ : ∃ r, r = simpB f n d i := ⟨_, rfl⟩
  have HR := Aside0.mk hr
  rw [← hr]
  clear hr
  go_enter Tryd.func63, Tryd.ntmps63
  go_wp2_with fail
  go_loop [7, 8] (fun a _ => ∃ q : Nat, a = .int .i64 q ∧ q ≤ n ∧ Aside0 (∀ a', a' < q → ∀ b, b < a' → Good f d i a' b)) (fun a _ => n - (intOf a).toNat)
  case atStart => exact ⟨0, rfl, by omega, ⟨fun a' h => by omega⟩⟩
  case round =>
    obtain ⟨a, rfl, ha, HG⟩ := hrel
    by_cases han : a < n
    · go_wp2_with fail
      go_loop [8] (fun b => ∃ q : Nat, b = .int .i64 q ∧ q ≤ a ∧ Aside0 (∀ b', b' < q → Good f d i a b')) (fun b => a - (intOf b).toNat)
      case atStart => exact ⟨0, rfl, by omega, ⟨fun b' h => by omega⟩⟩
      case round =>
        obtain ⟨b, rfl, hb, HG2⟩ := hrel
        by_cases hba : b < a
        · have hbn : b < n := by omega
          have c1 := HD.out.at_ han
          have c2 := HD.out.at_ hbn
          have c3 := mat_row HM.out hi
          have c4 := mat_at HM.out hi han
          have c5 := mat_at HM.out hi hbn
          have c6 := mat_row HM.out han
          have c7 := mat_at HM.out han hbn
          have HN : Aside0 (Good f d i a b → ∀ b', b' < b + 1 → Good f d i a b') := ⟨fun h b' hb' => by
            by_cases e : b' = b
            · rw [e]; exact h
            · exact HG2.out b' (by omega)⟩
          have HF : Aside0 (¬ Good f d i a b → r = false) := ⟨fun h => by
            rw [HR.out]
            cases e : simpB f n d i
            · rfl
            · exact absurd ((simpB_iff f n d i).1 e a han b hba) h⟩
          cases h1 : d.testBit a with
          | true =>
            have HN2 := Aside0.mk (HN.out (fun q => by rw [h1] at q; cases q))
            rw [h1] at c1
            clear h1 HN HF
            go_wp2_with fail
            exact ⟨⟨b + 1, by go_num, by omega, HN2⟩, by simp [intOf]; omega⟩
          | false =>
            cases h2 : d.testBit b with
            | true =>
              have HN2 := Aside0.mk (HN.out (fun _ q => by rw [h2] at q; cases q))
              rw [h1] at c1
              rw [h2] at c2
              clear h1 h2 HN HF
              go_wp2_with fail
              exact ⟨⟨b + 1, by go_num, by omega, HN2⟩, by simp [intOf]; omega⟩
            | false =>
              cases h3 : (f i).testBit a with
              | false =>
                have HN2 := Aside0.mk (HN.out (fun _ _ q => by rw [h3] at q; cases q))
                rw [h1] at c1
                rw [h2] at c2
                rw [h3] at c4
                clear h1 h2 h3 HN HF
                go_wp2_with fail
                exact ⟨⟨b + 1, by go_num, by omega, HN2⟩, by simp [intOf]; omega⟩
              | true =>
                cases h4 : (f i).testBit b with
                | false =>
                  have HN2 := Aside0.mk (HN.out (fun _ _ _ q => by rw [h4] at q; cases q))
                  rw [h1] at c1
                  rw [h2] at c2
                  rw [h3] at c4
                  rw [h4] at c5
                  clear h1 h2 h3 h4 HN HF
                  go_wp2_with fail
                  exact ⟨⟨b + 1, by go_num, by omega, HN2⟩, by simp [intOf]; omega⟩
                | true =>
                  cases h5 : (f a).testBit b with
                  | true =>
                    have HN2 := Aside0.mk (HN.out (fun _ _ _ _ => h5))
                    rw [h1] at c1
                    rw [h2] at c2
                    rw [h3] at c4
                    rw [h4] at c5
                    rw [h5] at c7
                    clear h1 h2 h3 h4 h5 HN HF
                    go_wp2_with fail
                    exact ⟨⟨b + 1, by go_num, by omega, HN2⟩, by simp [intOf]; omega⟩
                  | false =>
                    have HF2 := Aside0.mk (HF.out (fun q => by have := q h1 h2 h3 h4; rw [h5] at this; cases this))
                    rw [h1] at c1
                    rw [h2] at c2
                    rw [h3] at c4
                    rw [h4] at c5
                    rw [h5] at c7
                    clear h1 h2 h3 h4 h5 HN HF
                    go_wp2_with fail
                    go_ret
                    exact ⟨by rw [HF2.out]; rfl, rfl⟩
        · obtain rfl : b = a := by omega
          have HG3 : Aside0 (∀ a', a' < b + 1 → ∀ b', b' < a' → Good f d i a' b') := ⟨fun a' h => by
            by_cases e : a' = b
            · rw [e]; exact HG2.out
            · exact HG.out a' (by omega)⟩
          go_wp2_with fail
          exact ⟨⟨b + 1, by go_num, by omega, HG3⟩, by simp [intOf]; omega⟩
    · obtain rfl : a = n := by omega
      have HT : Aside0 (r = true) := ⟨by rw [HR.out, simpB_iff]; exact HG.out⟩
      go_wp2_with fail
      go_ret
      exact ⟨by rw [HT.out]; rfl, rfl⟩
/-- The first vertex below k that can be removed; -1: none. -/
noncomputable def findTo (f : Nat → Nat) (n d : Nat) : Nat → Int
  | 0 => -1
  | k + 1 => if findTo f n d k < 0 then (if d.testBit k = false ∧ simpB f n d k = true then (k : Int) else -1) else findTo f n d k
theorem findTo_bd (f : Nat → Nat) (n d : Nat) : ∀ k, -1 ≤ findTo f n d k ∧ findTo f n d k < k
  | 0 => by simp [findTo]
  | k + 1 => by
    have := findTo_bd f n d k
    rw [findTo]
    split
    · split <;> omega
    · omega
theorem findTo_keep (f : Nat → Nat) (n d : Nat) {j : Nat} (h : ¬ findTo f n d j < 0) : ∀ e, findTo f n d (j + e) = findTo f n d j
  | 0 => rfl
  | e + 1 => by
    rw [← Nat.add_assoc, findTo, findTo_keep f n d h e, if_neg h]
noncomputable def triT (f : Nat → Nat) (n : Nat) : Nat → Nat → Bool
  | 0, _ => true
  | k + 1, d => if findTo f n d n < 0 then false else triT f n k (d ||| 2 ^ (findTo f n d n).toNat)
theorem tri_any (f : Nat → Nat) (n g cc : Nat) (w : World) (hn : n ≤ 64) (hM : Mat w g n f) :
    Calls Tryd.prog 53 #[.slice (some ⟨g, 0, none⟩) n cc] w fun e w' => e = .returned (.bool (triT f n n 0)) ∧ Below w.heap.size w w' := by
  have HM := Aside0.mk hM
  have hmk : ∀ W : World, (Instr.makeSlice 61 (.int .i64 (n : Int)) (.int .i64 (n : Int))).run Tryd.prog W = .ok (.slice (some ⟨W.heap.size, 0, none⟩) n n) (W.alloc (.cells (rowB (bitRow 0 n)) 4)) := by
    intro W
    rw [bitRow_zero, ← rowB_zero]
    exact print_make_of (P := Tryd.prog) 61 4 (.bool false) 1 Tryd.underlying61 (by kernel_rfl) rfl (by decide) n (by omega) W
  clear hM
  obtain ⟨r, hr⟩ : ∃ r, r = triT f n n 0 := ⟨_, rfl⟩
  have HR := Aside0.mk hr
  rw [← hr]
  clear hr
  go_enter Tryd.func53, Tryd.ntmps53
  go_wp2_with fail
  obtain ⟨gs, hgs⟩ : ∃ gs, gs = w.heap.size := ⟨_, rfl⟩
  have HST := Aside0.mk (blk_new w (.cells (rowB (bitRow 0 n)) 4))
  have HGS := Aside0.mk hgs
  rw [← hgs] at HST ⊢
  clear hgs hmk
  go_loopw [4, 5, 6] (fun l _ _ wr => ∃ k d : Nat, l = .int .i64 k ∧ k ≤ n ∧ Aside0 (r = triT f n k d) ∧ BRow wr gs n d ∧ Below gs w wr) (fun l _ _ _ => (intOf l).toNat)
  case atStart => exact ⟨n, 0, rfl, Nat.le_refl _, HR, HST.out, by rw [HGS.out]; exact (Below.refl _ _).alloc (Nat.le_refl _) _⟩
  case round =>
    obtain ⟨k, d, rfl, hk, HK, hR, hB⟩ := hrel
    have HRW := Aside0.mk hR
    clear hR
    by_cases h0 : 0 < k
    · have HMr := Aside0.mk (Mat_below HM.out (by have := hB; rw [HGS.out] at this; exact this))
      go_wp2_with fail
      obtain ⟨wo, rfl⟩ : ∃ wo : World, wo = wr := ⟨_, rfl⟩
      go_loop [5, 6] (fun fd i => ∃ q : Nat, i = .int .i64 q ∧ q ≤ n ∧ fd = .int .i64 (findTo f n d q)) (fun _ i => n - (intOf i).toNat)
      case atStart => exact ⟨0, rfl, by omega, rfl⟩
      case round =>
        obtain ⟨q, rfl, hq, rfl⟩ := hrel
        obtain ⟨b1, b2⟩ := findTo_bd f n d q
        have HFS : Aside0 (findTo f n d (q + 1) = if findTo f n d q < 0 then (if d.testBit q = false ∧ simpB f n d q = true then (q : Int) else -1) else findTo f n d q) := ⟨rfl⟩
        have HKP := Aside0.mk (fun h => findTo_keep f n d (j := q) h (n - q))
        by_cases hqn : q < n
        · have c1 := HRW.out.at_ hqn
          have HSI := Aside0.mk (simp_any f n g gs cc n d q wo hn hqn HMr.out HRW.out)
          by_cases hneg : findTo f n d q < 0
          · have d1 : decide (findTo f n d q < 0) = true := by simpa using hneg
            have hfs := HFS.out
            rw [if_pos hneg] at hfs
            have HM1 : Aside0 (findTo f n d q = -1) := ⟨by omega⟩
            generalize hft : findTo f n d q = ft at *
            clear hft hneg HFS HKP
            cases h1 : d.testBit q with
            | true =>
              rw [h1] at c1
              rw [if_neg (fun z => by rw [h1] at z; exact absurd z.1 (by simp))] at hfs
              have HF2 : Aside0 (findTo f n d (q + 1) = ft) := ⟨by rw [hfs, HM1.out]⟩
              clear hfs h1 HSI
              go_wp2_with fail
              exact ⟨⟨q + 1, by go_num, by omega, by rw [HF2.out]⟩, by simp [intOf]; omega⟩
            | false =>
              rw [h1] at c1
              cases h2 : simpB f n d q with
              | false =>
                rw [h2] at HSI
                rw [if_neg (fun z => by rw [h2] at z; exact absurd z.2 (by simp))] at hfs
                have HF2 : Aside0 (findTo f n d (q + 1) = ft) := ⟨by rw [hfs, HM1.out]⟩
                clear hfs h1 h2
                go_wp2_with (go_at_call 63; go_must (refine HSI.out.mono ?_); rintro e w5 ⟨rfl, rfl⟩)
                exact ⟨⟨q + 1, by go_num, by omega, by rw [HF2.out]⟩, by simp [intOf]; omega⟩
              | true =>
                rw [h2] at HSI
                rw [if_pos ⟨h1, h2⟩] at hfs
                have HF2 := Aside0.mk hfs
                clear hfs h1 h2
                go_wp2_with (go_at_call 63; go_must (refine HSI.out.mono ?_); rintro e w5 ⟨rfl, rfl⟩)
                exact ⟨⟨q + 1, by go_num, by omega, by rw [HF2.out]⟩, by simp [intOf]; omega⟩
          · -- found
            have d1 : decide (findTo f n d q < 0) = false := by simpa using hneg
            have hkp := HKP.out hneg
            rw [show q + (n - q) = n by omega] at hkp
            rw [← hkp] at d1 ⊢
            clear hneg hkp HSI c1 HFS HKP b1 b2
            obtain ⟨b1, b2⟩ := findTo_bd f n d n
            obtain ⟨k, rfl⟩ : ∃ k', k = k' + 1 := ⟨k - 1, by omega⟩
            have HK2 : Aside0 (r = if findTo f n d n < 0 then false else triT f n k (d ||| 2 ^ (findTo f n d n).toNat)) := ⟨HK.out⟩
            generalize findTo f n d n = ft at *
            by_cases hneg2 : ft < 0
            · exact absurd hneg2 (by simpa using d1)
            · obtain ⟨v, rfl⟩ := Int.eq_ofNat_of_zero_le (show 0 ≤ ft by omega)
              have hvn : v < n := by omega
              have HK3 : Aside0 (r = triT f n k (d ||| 2 ^ v)) := ⟨by rw [HK2.out, if_neg hneg2]; rfl⟩
              have c1 := HRW.out.at_ hvn
              have hfz := blk_frozen HRW.out v
              have HU3 : Aside0 (BRow (wo.setCell ⟨gs, v, none⟩ (.bool true)) gs n (d ||| 2 ^ v)) := ⟨by
                have := blk_set HRW.out v (.bool true)
                rw [rowB_set, bitRow_set] at this
                exact this⟩
              clear hneg2 HK2 b1 b2
              go_wp2_with fail
              exact ⟨⟨k, d ||| 2 ^ v, by first | rfl | go_num | (congr 1; omega), by omega, HK3, HU3.out, hB.setCell (by simp) _⟩, by simp [intOf]⟩
        · obtain rfl : q = n := by omega
          clear HFS HKP b1 b2
          obtain ⟨b1, b2⟩ := findTo_bd f q d q
          obtain ⟨k, rfl⟩ : ∃ k', k = k' + 1 := ⟨k - 1, by omega⟩
          have HK2 : Aside0 (r = if findTo f q d q < 0 then false else triT f q k (d ||| 2 ^ (findTo f q d q).toNat)) := ⟨HK.out⟩
          generalize findTo f q d q = ft at *
          by_cases hneg2 : ft < 0
          · have d2 : decide (ft < 0) = true := by simpa using hneg2
            have HF : Aside0 (r = false) := ⟨by rw [HK2.out, if_pos hneg2]⟩
            clear hneg2 HK2
            go_wp2_with fail
            go_ret
            exact ⟨by rw [HF.out]; rfl, by rw [HGS.out] at hB; exact hB⟩
          · obtain ⟨v, rfl⟩ := Int.eq_ofNat_of_zero_le (show 0 ≤ ft by omega)
            have hvn : v < q := by omega
            have HK3 : Aside0 (r = triT f q k (d ||| 2 ^ v)) := ⟨by rw [HK2.out, if_neg hneg2]; rfl⟩
            have c1 := HRW.out.at_ hvn
            have hfz := blk_frozen HRW.out v
            have HU3 : Aside0 (BRow (wo.setCell ⟨gs, v, none⟩ (.bool true)) gs q (d ||| 2 ^ v)) := ⟨by
              have := blk_set HRW.out v (.bool true)
              rw [rowB_set, bitRow_set] at this
              exact this⟩
            clear hneg2 HK2 b1 b2
            go_wp2_with fail
            exact ⟨⟨k, d ||| 2 ^ v, by first | rfl | go_num | (congr 1; omega), by omega, HK3, HU3.out, hB.setCell (by simp) _⟩, by simp [intOf]⟩
    · obtain rfl : k = 0 := by omega
      have HT : Aside0 (r = true) := ⟨by rw [HK.out]; rfl⟩
      go_wp2_with fail
      go_ret
      exact ⟨by rw [HT.out]; rfl, by rw [HGS.out] at hB; exact hB⟩
end Go.Proofs.YtkkfoonaobehaaaDoor.Tri
