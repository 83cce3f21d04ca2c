import Derived.Test.YtkkfoonaobehaaaDoorComP
namespace Go.Proofs.YtkkfoonaobehaaaDoor.RTr
open Go.RowKit Go.Proofs.YtkkfoonaobehaaaDoorW.PrintWords Go.Proofs.YtkkfoonaobehaaaDoor.Bits Go.Proofs.YtkkfoonaobehaaaDoor.Low Go.Proofs.YtkkfoonaobehaaaDoor.Sets Go.Proofs.YtkkfoonaobehaaaDoor.Sort Go.Proofs.YtkkfoonaobehaaaDoor.Tr Go.Proofs.YtkkfoonaobehaaaDoor.Keep Go.Proofs.YtkkfoonaobehaaaDoor.Com Go.Proofs.YtkkfoonaobehaaaDoor.ComP
set_option maxHeartbeats 800000
set_option maxRecDepth 100000
set_option linter.unusedVariables false

/-- The reference's scan: without the test for the first step. -/
def scanR (ls : List Nat) (inn : List Bool) : Nat → Int × Int × Int
  | 0 => (0, -1, -1)
  | i + 1 => if inn.getD i false = true then scanR ls inn i else rowTo ls inn i (scanR ls inn i) ls.length
theorem rowTo_none (ls : List Nat) (inn : List Bool) (h : ∀ k, inn.getD k false = false) (i : Nat) (b : Int × Int × Int) : ∀ n, rowTo ls inn i b n = b
  | 0 => rfl
  | n + 1 => by rw [rowTo, consider, h n, rowTo_none ls inn h i b n, if_neg (by simp)]
theorem scanR_none (ls : List Nat) (inn : List Bool) (h : ∀ k, inn.getD k false = false) : ∀ n, scanR ls inn n = (0, -1, -1)
  | 0 => rfl
  | n + 1 => by rw [scanR, h n, if_neg (by simp), rowTo_none ls inn h, scanR_none ls inn h n]
theorem scanTo_first (ls : List Nat) (inn : List Bool) : ∀ n, scanTo ls inn 0 n = (0, -1, -1)
  | 0 => rfl
  | n + 1 => by rw [scanTo, if_pos (.inr rfl), scanTo_first ls inn n]
theorem scanR_later (ls : List Nat) (inn : List Bool) (r : Nat) (hr : r ≠ 0) : ∀ n, scanTo ls inn r n = scanR ls inn n
  | 0 => rfl
  | n + 1 => by
    rw [scanTo, scanR, scanR_later ls inn r hr n]
    by_cases h : inn.getD n false = true
    · rw [if_pos (.inl h), if_pos h]
    · rw [if_neg (by simp [hr]; simpa using h), if_neg h]
theorem scan_eq (ls : List Nat) (r n : Nat) : scanR ls (Tr.runT ls r).2 n = scanTo ls (Tr.runT ls r).2 r n := by
  by_cases hr : r = 0
  · subst hr
    rw [scanTo_first, scanR_none]
    intro k
    simp only [Tr.runT, List.getD_eq_getElem?_getD, List.getElem?_replicate]
    split <;> rfl
  · exact (scanR_later ls _ r hr n).symm
theorem okSets_row (L : List (List Int)) (h : okSets L = true) (i : Nat) (hi : i < L.length) : okRow none (L.getD i []) = true := by
  rw [okSets, List.all_eq_true] at h
  have := h _ (List.getElem_mem hi)
  rw [okSet, Bool.and_eq_true] at this
  rw [List.getD_eq_getElem?_getD, List.getElem?_eq_getElem hi]
  exact this.2

theorem rtree_any (L : List (List Int)) (A : Option Addr) (c : Nat) (w : World) (hL : KS.C w A L.length L) (hn : L.length ≤ 1000000) (hsh : ∀ i, i < L.length → (L.getD i []).length ≤ 1000) :
    Calls Tryd.prog 23 #[.slice A L.length c] w fun e w' => ∃ v, e = .returned (.tuple #[v, .int .i64 (treeC L)]) ∧ Kd.R KI 3 w' w.heap.size (fun _ => True) v (treeL L) ∧ Below w.heap.size w w' := by
  have HC := Aside0.mk hL
  have HSh := Aside0.mk hsh
  clear hL hsh
  by_cases h64 : 64 < L.length
  · have e1 : treeL L = [] := by simp [treeL]; omega
    have e2 : treeC L = 2 := by simp [treeC, h64]
    have d1 : decide ((64 : Int) < (L.length : Int)) = true := by simp; omega
    rw [e1, e2]
    clear e1 e2
    go_enter Tryd.func23, Tryd.ntmps23
    go_wp2_with fail
    go_ret2
    exact ⟨_, rfl, Kd.R_nil _ _ _ _ _, Below.refl _ _⟩
  have HBad : Aside0 (okSets L = false → treeC L = 1 ∧ treeL L = []) := ⟨fun h => by simp [treeC, treeL, h, h64]⟩
  have HGood : Aside0 (okSets L = true → treeC L = 0 ∧ treeL L = (Tr.runT (L.map (bitsOf 0)) L.length).1) := ⟨fun h => by simp [treeC, treeL, h, h64]⟩
  generalize treeC L = tc at *
  generalize treeL L = tl at *
  obtain ⟨n, hnn⟩ : ∃ n, n = L.length := ⟨_, rfl⟩
  have HN := Aside0.mk hnn
  rw [← hnn] at h64
  have hn64 : n ≤ 64 := by omega
  have d1 : decide ((64 : Int) < (n : Int)) = false := by simp; omega
  have hmk2 : ∀ W : World, (Instr.makeSlice 40 (.int .i64 (n : Int)) (.int .i64 (n : Int))).run Tryd.prog W = .ok (.slice (some ⟨W.heap.size, 0, none⟩) n n) (W.alloc (.cells (rowI (List.replicate n 0)) 3)) := by
    intro W
    rw [← rowI_zero]
    exact print_make (P := Tryd.prog) 40 3 .i64 8 Tryd.underlying40 i3 (by decide) n (by omega) W
  have hmk3 : ∀ W : World, (Instr.makeSlice 61 (.int .i64 (n : Int)) (.int .i64 (n : Int))).run Tryd.prog W = .ok (.slice (some ⟨W.heap.size, 0, none⟩) n n) (W.alloc (.cells (rowB (List.replicate n false)) 4)) := by
    intro W
    rw [← rowB_zero]
    exact print_make_of (P := Tryd.prog) 61 4 (.bool false) 1 Tryd.underlying61 (by kernel_rfl) rfl (by decide) n (by omega) W
  have HM2 := Aside0.mk hmk2
  have HM3 := Aside0.mk hmk3
  clear hmk2 hmk3
  rw [← hnn]
  clear hnn h64
  go_enter Tryd.func23, Tryd.ntmps23
  go_wp2_with fail
  clear d1
  go_loopw [4, 5] (fun ii _ wr => ∃ i : Nat, ii = .int .i64 i ∧ i ≤ n ∧ Aside0 (okSets L = okSets (L.drop i)) ∧ Aside0 (∃ m, wr = w.drewN m)) (fun ii _ _ => n - (intOf ii).toNat)
  case atStart => exact ⟨0, rfl, by omega, ⟨rfl⟩, ⟨0, rfl⟩⟩
  case round =>
    obtain ⟨i, rfl, hi, HK, HW⟩ := hrel
    by_cases hlt : i < n
    · have hiL : i < L.length := by rw [← HN.out]; exact hlt
      obtain ⟨ad, A2, c2, ead, hx0, hlx, hCx⟩ := elemC HC.out i hiL
      have hx := pw_cell_below (below_drewd (B := w.heap.size) HW.out) hx0
      have HX0 := Aside0.mk hx0
      clear hx0
      have hOS := okSets_step L i hiL
      have hsl := HSh.out i hiL
      obtain ⟨xs, hxs⟩ : ∃ xs, xs = L.getD i [] := ⟨_, rfl⟩
      rw [← hxs] at hOS hx hlx hCx hsl HX0
      have HOS := Aside0.mk hOS
      have HCx := Aside0.mk hCx
      clear hxs hOS hCx
      cases ead
      by_cases hz : xs.length = 0
      · have hbad : okSets L = false := by rw [HK.out, HOS.out]; simp [okSet, List.length_eq_zero_iff.1 hz]
        obtain ⟨b1, b2⟩ := HBad.out hbad
        have d2 : ((xs.length : Int) == 0) = true := by simp [hz]
        have d3 : ((xs.length : Int) != 0) = false := by simp [hz]
        have HB1 := Aside0.mk b1
        have HB2 := Aside0.mk b2
        clear b1 b2 hbad
        go_wp2_with fail
        go_ret2
        exact ⟨_, by rw [HB1.out]; rfl, by rw [HB2.out]; exact Kd.R_nil _ _ _ _ _, below_drewd HW.out⟩
      · have d2 : ((xs.length : Int) == 0) = false := by simp only [beq_eq_false_iff_ne, ne_eq]; omega
        have d3 : ((xs.length : Int) != 0) = true := by simp only [bne_iff_ne, ne_eq]; omega
        have hok0 : okSets L = (okRow none (xs.drop 0) && okSets (L.drop (i + 1))) := by rw [HK.out, HOS.out, okSet, decide_eq_true (show xs ≠ [] from fun h => hz (by rw [h]; rfl))]; rfl
        have HOK := Aside0.mk hok0
        have hne := hz
        clear hok0 hz
        go_wp2_with fail
        clear d2 d3 hx
        obtain ⟨wo, rfl⟩ : ∃ wo : World, wo = wr := ⟨_, rfl⟩
        go_loopw [5] (fun qq wr => ∃ q : Nat, qq = .int .i64 q ∧ q ≤ xs.length ∧ Aside0 (okSets L = (okRow (if q = 0 then none else some (xs.getD (q - 1) 0)) (xs.drop q) && okSets (L.drop (i + 1)))) ∧ Aside0 (∃ m, wr = w.drewN m)) (fun qq _ => xs.length - (intOf qq).toNat)
        case atStart => exact ⟨0, rfl, by omega, ⟨HOK.out⟩, HW⟩
        case round =>
          obtain ⟨q, rfl, hq, HQ, HW2⟩ := hrel
          have hx := pw_cell_below (below_drewd (B := w.heap.size) HW2.out) HX0.out
          by_cases hql : q < xs.length
          · have hCq := Kd.C_below HCx.out (below_drewd HW2.out)
            obtain ⟨ad2, ead2, hy⟩ := Kd.at_int hCq q (by omega) (by omega)
            have hrd : rd xs q = xs.getD q 0 := by simp [rd]
            rw [hrd] at hy
            simp only [Int.toNat_natCast] at hy
            cases ead2
            have HRS := Aside0.mk (okRow_step (if q = 0 then none else some (xs.getD (q - 1) 0)) xs q hql)
            have hHB0 : Aside0 (okAt (if q = 0 then none else some (xs.getD (q - 1) 0)) (xs.getD q 0) = false → okSets L = false) := ⟨fun h => by rw [HQ.out, HRS.out, h]; simp⟩
            have hpv : 0 < q → wr.cell? (ad2.add (q - 1)) = some (.int .i64 (xs.getD (q - 1) 0)) := by
              intro h0
              obtain ⟨ad3, ead3, hy3⟩ := Kd.at_int hCq (q - 1 : Nat) (by omega) (by omega)
              cases ead3
              have hrd3 : rd xs (q - 1 : Nat) = xs.getD (q - 1) 0 := by simp [rd]
              rw [hrd3] at hy3
              simpa using hy3
            have HPV := Aside0.mk hpv
            obtain ⟨x, hxe⟩ : ∃ x, x = xs.getD q 0 := ⟨_, rfl⟩
            have HXE : Aside0 (xs.getD q 0 = x) := ⟨hxe.symm⟩
            rw [← hxe] at hy HRS hHB0
            clear hxe hrd hpv hCq
            have HB0 := hHB0.out
            clear hHB0
            by_cases q1 : x < 0
            · have d4 : decide (x < 0) = true := by simpa using q1
              have hbad := HB0 (by simp [okAt]; omega)
              obtain ⟨b1, b2⟩ := HBad.out hbad
              have HB1 := Aside0.mk b1
              have HB2 := Aside0.mk b2
              clear b1 b2 hbad HB0
              go_wp2_with fail
              go_quiet (fail)
              go_wp2_with fail
              go_ret2
              exact ⟨_, by rw [HB1.out]; rfl, by rw [HB2.out]; exact Kd.R_nil _ _ _ _ _, below_drewd (drewd_more HW2.out _)⟩
            · have d4 : decide (x < 0) = false := by simpa using q1
              by_cases q2 : 64 ≤ x
              · have d5 : decide ((64 : Int) ≤ x) = true := by simpa using q2
                have hbad := HB0 (by simp [okAt]; omega)
                obtain ⟨b1, b2⟩ := HBad.out hbad
                have HB1 := Aside0.mk b1
                have HB2 := Aside0.mk b2
                clear b1 b2 hbad HB0
                go_wp2_with fail
                go_quiet (fail)
                go_wp2_with fail
                go_ret2
                exact ⟨_, by rw [HB1.out]; rfl, by rw [HB2.out]; exact Kd.R_nil _ _ _ _ _, below_drewd (drewd_more HW2.out _)⟩
              · obtain ⟨v, rfl⟩ := Int.eq_ofNat_of_zero_le (show 0 ≤ x by omega)
                have d5 : decide ((64 : Int) ≤ (v : Int)) = false := by simpa using q2
                have d5n : decide (64 ≤ v) = false := by simp; omega
                have hv : v < 64 := by omega
                have hrow : okAt (if q = 0 then none else some (xs.getD (q - 1) 0)) (v : Int) = (match (if q = 0 then none else some (xs.getD (q - 1) 0) : Option Int) with | none => true | some p => decide (p < (v : Int))) := by
                  exact okAt_in _ v hv
                by_cases q3 : q = 0
                · have d6 : decide ((0 : Int) < (q : Int)) = false := by simp; omega
                  have d7 : decide (0 < q) = false := by simp; omega
                  have hoka : okAt (if q = 0 then none else some (xs.getD (q - 1) 0)) (v : Int) = true := by rw [hrow, if_pos q3]
                  clear hrow q3
                  have HK1 : Aside0 (okSets L = (okRow (if q + 1 = 0 then none else some (xs.getD (q + 1 - 1) 0)) (xs.drop (q + 1)) && okSets (L.drop (i + 1)))) := ⟨by rw [HQ.out, HRS.out, hoka, if_neg (Nat.succ_ne_zero q), Nat.add_sub_cancel, HXE.out, Bool.true_and]⟩
                  clear HB0 hoka
                  go_wp2_with fail
                  go_quiet (fail)
                  go_wp2_with fail
                  exact ⟨⟨q + 1, by go_num, by omega, HK1, ⟨drewd_more HW2.out _⟩⟩, by simp [intOf]; omega⟩
                · have d6 : decide ((0 : Int) < (q : Int)) = true := by simp; omega
                  have d7 : decide (0 < q) = true := by simp; omega
                  have hpv := HPV.out (by omega)
                  rw [if_neg q3] at hrow HB0 HRS HQ
                  obtain ⟨pv, hpe⟩ : ∃ pv, pv = xs.getD (q - 1) 0 := ⟨_, rfl⟩
                  rw [← hpe] at hrow HB0 HRS HQ hpv
                  clear hpe HPV
                  simp only at hrow
                  have hw : IntKind.i64.wrap ((q : Int) - 1) = ((q - 1 : Nat) : Int) := by rw [IntWalk.i64_in _ (by omega)]; omega
                  have hw0 : (0 : Int) ≤ ((q - 1 : Nat) : Int) := by omega
                  have hw1 : ((q - 1 : Nat) : Int) < (xs.length : Int) := by omega
                  by_cases q4 : (v : Int) ≤ pv
                  · have d8 : decide ((v : Int) ≤ pv) = true := by simpa using q4
                    have hoka : okAt (some pv) (v : Int) = false := by rw [hrow]; simp; omega
                    clear hrow q4
                    have hbad := HB0 (hoka)
                    obtain ⟨b1, b2⟩ := HBad.out hbad
                    have HB1 := Aside0.mk b1
                    have HB2 := Aside0.mk b2
                    clear b1 b2 hbad HB0
                    go_wp2_with fail
                    go_quiet (fail)
                    go_wp2_with fail
                    go_ret2
                    exact ⟨_, by rw [HB1.out]; rfl, by rw [HB2.out]; exact Kd.R_nil _ _ _ _ _, below_drewd (drewd_more HW2.out _)⟩
                  · have d8 : decide ((v : Int) ≤ pv) = false := by simpa using q4
                    have hoka : okAt (some pv) (v : Int) = true := by rw [hrow]; simp; omega
                    clear hrow q4
                    have HK1 : Aside0 (okSets L = (okRow (if q + 1 = 0 then none else some (xs.getD (q + 1 - 1) 0)) (xs.drop (q + 1)) && okSets (L.drop (i + 1)))) := ⟨by rw [HQ.out, HRS.out, hoka, if_neg (Nat.succ_ne_zero q), Nat.add_sub_cancel, HXE.out, Bool.true_and]⟩
                    clear HB0 hoka
                    go_wp2_with fail
                    go_quiet (fail)
                    go_wp2_with fail
                    exact ⟨⟨q + 1, by go_num, by omega, HK1, ⟨drewd_more HW2.out _⟩⟩, by simp [intOf]; omega⟩
          · obtain rfl : q = xs.length := by omega
            go_wp2_with fail
            refine ⟨⟨i + 1, by go_num, by omega, ⟨?_⟩, HW2⟩, by simp [intOf]; omega⟩
            rw [HQ.out]; simp [okRow]
    · obtain rfl : i = n := by omega
      have hok : okSets L = true := by rw [HK.out, HN.out, List.drop_length]; rfl
      obtain ⟨b1, b2⟩ := HGood.out hok
      have hcom : ∀ j k, j < i → k < i → comm (L.getD j []) (L.getD k []) = pc ((L.map (bitsOf 0)).getD j 0 &&& (L.map (bitsOf 0)).getD k 0) := by
        intro j k hj hk
        have hN := HN.out
        rw [comm_bits _ _ (okSets_row L hok j (by omega)) (okSets_row L hok k (by omega))]
        have e : ∀ j, j < L.length → (L.map (bitsOf 0)).getD j 0 = bitsOf 0 (L.getD j []) := by
          intro j hj
          simp [List.getD_eq_getElem?_getD, List.getElem?_eq_getElem hj]
        rw [e j (by omega), e k (by omega)]
      have hll : (L.map (bitsOf 0)).length = i := by rw [List.length_map, ← HN.out]
      rw [← HN.out] at b2
      generalize L.map (bitsOf 0) = ls at *
      have HB1 := Aside0.mk b1
      have HB2 := Aside0.mk b2
      have HLL := Aside0.mk hll
      have HCOM := Aside0.mk hcom
      have hmk2 := HM2.out
      have hmk3 := HM3.out
      clear b1 b2 hll hcom hok HK HBad HGood HM2 HM3
      obtain ⟨w5, rfl⟩ : ∃ w5 : World, w5 = wr := ⟨_, rfl⟩
      go_wp2_with fail
      obtain ⟨B, hBe⟩ : ∃ B, B = w5.heap.size := ⟨_, rfl⟩
      rw [← hBe]
      have HBe := Aside0.mk hBe
      have hW5 : Below w.heap.size w w5 := below_drewd HW.out
      have hBw : w.heap.size ≤ B := by rw [hBe]; exact hW5.size
      have hS1 : ((w5.alloc (.cells (rowI (List.replicate i 0)) 3)).alloc (.cells (rowB (List.replicate i false)) 4)).heap[B]? = some (.cells (rowI (List.replicate i 0)) 3 (0, 0)) := blk_alloc (blk_at hBe) _
      have hS2 : ((w5.alloc (.cells (rowI (List.replicate i 0)) 3)).alloc (.cells (rowB (List.replicate i false)) 4)).heap[B + 1]? = some (.cells (rowB (List.replicate i false)) 4 (0, 0)) := blk_at (by simp [hBe])
      have hS3 : Below B w5 ((w5.alloc (.cells (rowI (List.replicate i 0)) 3)).alloc (.cells (rowB (List.replicate i false)) 4)) := ((Below.refl _ _).alloc (by omega) _).alloc (by simp; omega) _
      have HS1 := Aside0.mk hS1
      have HS2 := Aside0.mk hS2
      have HW5 := Aside0.mk hW5
      clear hS1 hS2 hBe hmk2 hmk3 hW5
      go_loopw [8, 9, 10, 11, 12, 13] (fun rr _ _ _ _ _ wr => ∃ r : Nat, rr = .int .i64 r ∧ r ≤ i ∧ wr.heap[B]? = some (.cells (rowI (Tr.runT ls r).1) 3 (0, 0)) ∧ wr.heap[B + 1]? = some (.cells (rowB (Tr.runT ls r).2) 4 (0, 0)) ∧ Below B w5 wr) (fun rr _ _ _ _ _ _ => i - (intOf rr).toNat)
      case atStart => exact ⟨0, rfl, by omega, by rw [HS1.out, Tr.runT, HLL.out], by rw [HS2.out, Tr.runT, HLL.out], hS3⟩
      case round =>
        obtain ⟨r, rfl, hr, hR1, hR2, hB6⟩ := hrel
        have HR1 := Aside0.mk hR1
        have HR2 := Aside0.mk hR2
        clear hR1 hR2
        by_cases hri : r < i
        · have hlen := runT_len ls r
          have hrun : Tr.runT ls (r + 1) = Tr.stepT ls (Tr.runT ls r) r := rfl
          have hseq := scan_eq ls r
          rw [HLL.out] at hlen
          have HRUN := Aside0.mk hrun
          have HLEN := Aside0.mk hlen
          have HSEQ := Aside0.mk hseq
          clear hrun hlen hseq
          generalize Tr.runT ls r = st at *
          obtain ⟨tr, inn⟩ := st
          have hltr := HLEN.out.1
          have hlin := HLEN.out.2
          simp only at HR1 HR2 hltr hlin HSEQ
          have HLTR := Aside0.mk hltr
          have HLIN := Aside0.mk hlin
          clear hltr hlin HLEN
          have HBe6 := Aside0.mk (show Below w5.heap.size w5 wr by rw [← HBe.out]; exact hB6)
          go_wp2_with fail
          obtain ⟨w6, rfl⟩ : ∃ w6 : World, w6 = wr := ⟨_, rfl⟩
          have HW6 := Aside0.mk (show Below w.heap.size w w6 from below_then HW5.out HW5.out.size HBe6.out)
          go_loopw [9, 10, 11, 12, 13] (fun x9 x10 x11 jj _ wr => ∃ j : Nat, jj = .int .i64 j ∧ j ≤ i ∧ x9 = .int .i64 (scanR ls inn j).1 ∧ x10 = .int .i64 (scanR ls inn j).2.1 ∧ x11 = .int .i64 (scanR ls inn j).2.2 ∧ Below w6.heap.size w6 wr) (fun _ _ _ jj _ _ => i - (intOf jj).toNat)
          case atStart => exact ⟨0, rfl, by omega, rfl, rfl, rfl, Below.refl _ _⟩
          case round =>
            obtain ⟨j, rfl, hj, rfl, rfl, rfl, hB7⟩ := hrel
            by_cases hji : j < i
            · have hsc : scanR ls inn (j + 1) = if inn.getD j false = true then scanR ls inn j else rowTo ls inn j (scanR ls inn j) ls.length := rfl
              rw [HLL.out] at hsc
              have HSC := Aside0.mk hsc
              clear hsc
              have hbd := scanTo_bd ls inn r i (by omega) HLL.out j (by omega)
              rw [← HSEQ.out j] at hbd
              generalize scanR ls inn j = b at *
              have HBD := Aside0.mk hbd
              clear hbd
              go_wp2_with fail
              obtain ⟨w8, rfl⟩ : ∃ w8 : World, w8 = wr := ⟨_, rfl⟩
              go_loopw [9, 10, 11, 13] (fun x9 x10 x11 kk wr => ∃ k : Nat, kk = .int .i64 k ∧ k ≤ i ∧ x9 = .int .i64 (if inn.getD j false = true then b else rowTo ls inn j b k).1 ∧ x10 = .int .i64 (if inn.getD j false = true then b else rowTo ls inn j b k).2.1 ∧ x11 = .int .i64 (if inn.getD j false = true then b else rowTo ls inn j b k).2.2 ∧ Below w6.heap.size w6 wr) (fun _ _ _ kk _ => i - (intOf kk).toNat)
              case atStart => exact ⟨0, rfl, by omega, by simp [rowTo], by simp [rowTo], by simp [rowTo], hB7⟩
              case round =>
                obtain ⟨k, rfl, hk, rfl, rfl, rfl, hB8⟩ := hrel
                by_cases hki : k < i
                · have hcJ : wr.cell? ⟨B + 1, j, none⟩ = some (.bool (inn.getD j false)) := by rw [blk_cell (blk_below HR2.out hB8) j, rowB_at _ j (by rw [HLIN.out]; exact hji)]
                  have hcK : wr.cell? ⟨B + 1, k, none⟩ = some (.bool (inn.getD k false)) := by rw [blk_cell (blk_below HR2.out hB8) k, rowB_at _ k (by rw [HLIN.out]; exact hki)]
                  have hrw : rowTo ls inn j b (k + 1) = consider ls inn j (rowTo ls inn j b k) k := rfl
                  have hbd := rowTo_bd ls inn j i hji b HBD.out k (by omega)
                  have hN := HN.out
                  have hB8w : Below w.heap.size w wr := below_then HW6.out HW6.out.size hB8
                  have hsj := HSh.out j (by omega)
                  have hsk := HSh.out k (by omega)
                  have hcm := HCOM.out j k hji hki
                  obtain ⟨ad, A2, c2, ead, hx1, hl1, hC1⟩ := elemC (Kd.C_below HC.out hB8w) j (by omega)
                  obtain ⟨ad2, A3, c3, ead2, hx2, hl2, hC2⟩ := elemC (Kd.C_below HC.out hB8w) k (by omega)
                  cases ead
                  cases ead2
                  rw [consider] at hrw
                  clear hN
                  generalize L.getD j [] = lj at *
                  generalize L.getD k [] = lk at *
                  generalize ls.getD j 0 &&& ls.getD k 0 = u at *
                  have hcall := fun n => common_any lj lk A2 A3 c2 c3 (wr.drewN n) (Kd.C_drewN hC1 n) (Kd.C_drewN hC2 n) hsj hsk
                  rw [hcm] at hcall
                  have HCA := Aside0.mk hcall
                  have HRW := Aside0.mk hrw
                  clear hcall hrw hcm hC1 hC2
                  generalize rowTo ls inn j b k = b2 at *
                  generalize inn.getD j false = tj at *
                  generalize inn.getD k false = tk at *
                  cases tj with
                  | true =>
                    simp only [if_true]
                    go_wp2_with fail
                    go_quiet (fail)
                    go_wp2_with fail
                    exact ⟨⟨k + 1, by go_num, by omega, by simp, by simp, by simp, pw_below_drewN hB8 _⟩, by simp [intOf]; omega⟩
                  | false =>
                    simp only [Bool.false_eq_true, if_false]
                    cases tk with
                    | false =>
                      have h := HRW.out
                      rw [if_neg (by simp)] at h
                      have HRW' := Aside0.mk h
                      clear h HRW
                      go_wp2_with fail
                      go_quiet (fail)
                      go_wp2_with fail
                      have h := HRW'.out
                      exact ⟨⟨k + 1, by go_num, by omega, by rw [h], by rw [h], by rw [h], pw_below_drewN hB8 _⟩, by simp [intOf]; omega⟩
                    | true =>
                      by_cases hgt : b2.2.2 < (pc u : Int)
                      · have d5 : decide (b2.2.2 < (pc u : Int)) = true := by simpa using hgt
                        have h := HRW.out
                        rw [if_pos ⟨rfl, hgt⟩] at h
                        have HRW' := Aside0.mk h
                        clear h HRW hgt
                        go_wp2_with fail
                        go_quiet ((go_at_call 56; exact Calls.quiet_of (HCA.out _)))
                        go_wp2_with fail
                        obtain ⟨w9, hw9⟩ : ∃ w9 : World, w9 = wr.drewN nq := ⟨_, rfl⟩
                        have hx3 := (show (wr.drewN nq).cell? _ = _ from hx1)
                        have hx4 := (show (wr.drewN nq).cell? _ = _ from hx2)
                        have hB9 : Below w6.heap.size w6 w9 := by rw [hw9]; exact pw_below_drewN hB8 _
                        have hcall : ∀ m, Calls Tryd.prog 56 #[.slice A2 lj.length c2, .slice A3 lk.length c3] (w9.drewN m) fun e w' => e = .returned (.int .i64 (pc u : Int)) ∧ ∃ m', w' = (w9.drewN m).drewN m' := by
                          intro m
                          have := HCA.out (nq + m)
                          rw [← World.drewN_drewN, ← hw9] at this
                          exact this
                        rw [← hw9] at hx3 hx4 ⊢
                        have HCA9 := Aside0.mk hcall
                        have HB9 := Aside0.mk hB9
                        clear hcall hw9 hB9 hx1 hx2 hcJ hcK
                        go_quiet ((go_at_call 56; exact Calls.quiet_of (HCA9.out _)))
                        go_wp2_with fail
                        have h := HRW'.out
                        exact ⟨⟨k + 1, by go_num, by omega, by rw [h], by rw [h], by rw [h], pw_below_drewN HB9.out _⟩, by simp [intOf]; omega⟩
                      · have d5 : decide (b2.2.2 < (pc u : Int)) = false := by simpa using hgt
                        have h := HRW.out
                        rw [if_neg (fun h => hgt h.2)] at h
                        have HRW' := Aside0.mk h
                        clear h HRW hgt
                        go_wp2_with fail
                        go_quiet ((go_at_call 56; exact Calls.quiet_of (HCA.out _)))
                        go_wp2_with fail
                        have h := HRW'.out
                        exact ⟨⟨k + 1, by go_num, by omega, by rw [h], by rw [h], by rw [h], pw_below_drewN hB8 _⟩, by simp [intOf]; omega⟩
                · obtain rfl : k = i := by omega
                  go_wp2_with fail
                  have h := HSC.out
                  exact ⟨⟨j + 1, by go_num, by omega, by rw [h], by rw [h], by rw [h], hB8⟩, by simp [intOf]; omega⟩
            · obtain rfl : j = i := by omega
              have hbd := scanTo_bd ls inn r j (by omega) HLL.out j (Nat.le_refl _)
              have hpar : par (scanTo ls inn r j) = if (scanTo ls inn r j).2.2 ≤ 0 then -1 else (scanTo ls inn r j).2.1 := rfl
              have hst : Tr.runT ls (r + 1) = (tr.set (scanTo ls inn r j).1.toNat (par (scanTo ls inn r j)), inn.set (scanTo ls inn r j).1.toNat true) := by rw [HRUN.out, Tr.stepT, HLL.out]
              rw [HSEQ.out j]
              have HST5 := Aside0.mk hst
              have HPAR := Aside0.mk hpar
              clear hst hpar HRUN HSEQ
              generalize scanTo ls inn r j = b at *
              obtain ⟨bi, bp, bc⟩ := b
              simp only at hbd HPAR HST5
              obtain ⟨hb1, hb2, hb3, hb4, hb5, hb6⟩ := hbd
              obtain ⟨bi, rfl⟩ := Int.eq_ofNat_of_zero_le hb1
              have hbi : bi < j := by omega
              rw [Int.toNat_natCast] at HST5
              have hg7 : wr.heap[B]? = some (.cells (rowI tr) 3 (0, 0)) := blk_below HR1.out hB7
              have hg8 : wr.heap[B + 1]? = some (.cells (rowB inn) 4 (0, 0)) := blk_below HR2.out hB7
              have hc1 : wr.cell? ⟨B, bi, none⟩ = some (.int .i64 (tr.getD bi 0)) := by rw [blk_cell hg7 bi, rowI_at _ bi (by rw [HLTR.out]; exact hbi)]
              have hc2 : wr.cell? ⟨B + 1, bi, none⟩ = some (.bool (inn.getD bi false)) := by rw [blk_cell hg8 bi, rowB_at _ bi (by rw [HLIN.out]; exact hbi)]
              have hf1 := blk_frozen hg7 bi
              have hf2 := blk_frozen hg8 bi
              have HG7 := Aside0.mk hg7
              have HG8 := Aside0.mk hg8
              have hB10 : Below B w5 wr := below_then hB6 (by have := HBe6.out.size; rw [HBe.out]; exact this) hB7
              clear hg7 hg8
              by_cases hle : bc ≤ 0
              · have d5 : decide (bc ≤ 0) = true := by simpa using hle
                have h := HPAR.out
                rw [if_pos hle] at h
                have HP := Aside0.mk h
                clear h HPAR hle
                go_wp2_with fail
                refine ⟨⟨r + 1, by go_num, by omega, ?_, ?_, (hB10.setCell (Nat.le_succ _) _).setCell (Nat.le_refl _) _⟩, by simp [intOf]; omega⟩
                · rw [HST5.out, HP.out, ← rowI_set]
                  exact blk_set (blk_far HG7.out (by simp) _) bi _
                · rw [HST5.out, ← rowB_set]
                  exact blk_far (blk_set HG8.out bi _) (by simp) _
              · have d5 : decide (bc ≤ 0) = false := by simpa using hle
                have h := HPAR.out
                rw [if_neg hle] at h
                have HP := Aside0.mk h
                clear h HPAR hle
                go_wp2_with fail
                refine ⟨⟨r + 1, by go_num, by omega, ?_, ?_, (hB10.setCell (Nat.le_succ _) _).setCell (Nat.le_refl _) _⟩, by simp [intOf]; omega⟩
                · rw [HST5.out, HP.out, ← rowI_set]
                  exact blk_set (blk_far HG7.out (by simp) _) bi _
                · rw [HST5.out, ← rowB_set]
                  exact blk_far (blk_set HG8.out bi _) (by simp) _
        · obtain rfl : r = i := by omega
          have hrl := (runT_len ls r).1
          rw [HLL.out] at hrl
          have HRL := Aside0.mk hrl
          clear hrl
          go_wp2_with fail
          go_ret2
          refine ⟨_, by rw [HB1.out]; rfl, ?_, ?_⟩
          · rw [HB2.out]
            have h := R_of_blk (base := w.heap.size) HR1.out hBw (by rw [HRL.out]; omega)
            rw [HRL.out] at h
            exact h
          · exact below_then HW5.out HW5.out.size (by rw [← HBe.out]; exact hB6)
end Go.Proofs.YtkkfoonaobehaaaDoor.RTr
