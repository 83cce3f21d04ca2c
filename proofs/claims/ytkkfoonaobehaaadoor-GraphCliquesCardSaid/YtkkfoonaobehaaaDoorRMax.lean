import Derived.Test.YtkkfoonaobehaaaDoorFill
import Derived.Test.YtkkfoonaobehaaaDoorLess
import Derived.Test.YtkkfoonaobehaaaDoorClqE
namespace Go.Proofs.YtkkfoonaobehaaaDoor.RMax
open Go.RowKit Go.Proofs.YtkkfoonaobehaaaDoor.Kit Go.Proofs.YtkkfoonaobehaaaDoorW.PrintWords Go.Proofs.YtkkfoonaobehaaaDoor.Bits Go.Proofs.YtkkfoonaobehaaaDoor.Low Go.Proofs.YtkkfoonaobehaaaDoor.Cmp Go.Proofs.YtkkfoonaobehaaaDoor.Sets Go.Proofs.YtkkfoonaobehaaaDoor.Search Go.Proofs.YtkkfoonaobehaaaDoor.Earl Go.Proofs.YtkkfoonaobehaaaDoor.Cl Go.Proofs.YtkkfoonaobehaaaDoor.Sort Go.Proofs.YtkkfoonaobehaaaDoor.Tr Go.Proofs.YtkkfoonaobehaaaDoor.Keep Go.Proofs.YtkkfoonaobehaaaDoor.Com Go.Proofs.YtkkfoonaobehaaaDoor.Ref Go.Proofs.YtkkfoonaobehaaaDoor.GrP Go.Proofs.YtkkfoonaobehaaaDoor.Parts Go.Proofs.YtkkfoonaobehaaaDoor.Tri Go.Proofs.YtkkfoonaobehaaaDoor.ChE Go.Proofs.YtkkfoonaobehaaaDoor.Less Go.Proofs.YtkkfoonaobehaaaDoor.ClqE
set_option maxHeartbeats 1600000
set_option maxRecDepth 100000
set_option linter.unusedVariables false
set_option linter.unusedSimpArgs false
section
variable {e base : Nat} {W : World} {ok : Nat → Prop} {g c : Nat} {xs : List (List Int)}
theorem swap_S {n : Nat} (h : KS.R e W base ok (.slice (some ⟨g, 0, none⟩) n c) xs) (j : Nat) (h0 : 0 < j) (hj : j < n) {u v : Value} {x y : List Int} (hx : x = xs.getD j []) (hy : y = xs.getD (j - 1) []) (hu : KS.M W base (fun k => ok k ∧ k ≠ g) y [u]) (hv : KS.M W base (fun k => ok k ∧ k ≠ g) x [v]) :
    KS.R e ((W.setCell ⟨g, j - 1, none⟩ v).setCell ⟨g, j, none⟩ u) base ok (.slice (some ⟨g, 0, none⟩) n c) (sw xs (j - 1)) := by
  obtain ⟨q, rfl⟩ : ∃ q, j = q + 1 := ⟨j - 1, by omega⟩
  subst hx hy
  rw [Nat.add_sub_cancel] at *
  obtain ⟨c1, hl1, _, hc1, _⟩ := Kd.R_elem h [] ((q : Nat) : Int) (by omega) (by omega)
  have h1 := (Kd.R_seg h ((q : Nat) : Int) (by omega) (by omega) (seg := [v]) (j := 0) hl1 hc1 (by simp [KS, Kd.slice]) (x' := xs.getD (q + 1) []) (by
    have : c1.drop 1 = [] := by apply List.eq_nil_of_length_eq_zero; rw [List.length_drop, hl1]; rfl
    simpa [this] using hv) (fun _ hk => hk)).1
  simp only [Int.toNat_natCast, show KS.sz = 1 from rfl, Nat.mul_one, Nat.add_zero, World.setCells] at h1
  have hv' := Kd.M_far (p := ⟨g, q, none⟩) hu (fun _ hk => hk.2) v
  obtain ⟨c2, hl2, _, hc2, _⟩ := Kd.R_elem h1 [] ((q + 1 : Nat) : Int) (by omega) (by omega)
  have h2 := (Kd.R_seg h1 ((q + 1 : Nat) : Int) (by omega) (by omega) (seg := [u]) (j := 0) hl2 hc2 (by simp [KS, Kd.slice]) (x' := xs.getD q []) (by
    have : c2.drop 1 = [] := by apply List.eq_nil_of_length_eq_zero; rw [List.length_drop, hl2]; rfl
    simpa [this] using hv') (fun _ hk => hk)).1
  simp only [Int.toNat_natCast, show KS.sz = 1 from rfl, Nat.mul_one, Nat.add_zero, World.setCells] at h2
  rw [sw, List.set_comm _ _ (by omega)]
  exact h2
end
theorem first_neg {f : Nat → Nat} {n d v : Nat} (h : findTo f n d n = v) (hv : v < n) : findTo f n d v < 0 := by
  apply Classical.byContradiction
  intro q
  have := findTo_keep f n d q (n - v)
  rw [show v + (n - v) = n by omega, h] at this
  have := (findTo_bd f n d v).2
  omega
theorem maxi_any (f : Nat → Nat) (n g cc : Nat) (w : World) (hn : n ≤ 64) (gr : Gr n f) (hcan : ChE.Can f n n) (hM : Mat w g n f) :
    Calls Tryd.prog 54 #[.slice (some ⟨g, 0, none⟩) n cc] w fun e w' => ∃ v, e = .returned v ∧ KS.R 40 w' w.heap.size (fun _ => True) v (sortL (rawTo (allM f n n) n)) ∧ Below w.heap.size w w' := by
  have HM := Aside0.mk hM
  have hmk : ∀ W : World, (Instr.makeSlice 61 (.int .i64 (n : Int)) (.int .i64 (n : Int))).run Tryd.prog W = .ok (.slice (some ⟨W.heap.size, 0, none⟩) n n) (W.alloc (.cells (rowB (bitRow 0 n)) 4)) := by
    intro W
    rw [bitRow_zero, ← rowB_zero]
    exact print_make_of (P := Tryd.prog) 61 4 (.bool false) 1 Tryd.underlying61 (by kernel_rfl) rfl (by decide) n (by omega) W
  have HCAN := Aside0.mk hcan
  have HGR := Aside0.mk gr
  have HML : Aside0 ((allM f n n).length = n) := ⟨allM_len f n n⟩
  have HMT : Aside0 (∀ i, i < n → (allM f n n).getD i 0 < 18446744073709551616) := ⟨fun i hi => allM_lt hn gr hcan n (Nat.le_refl _) _ (by
    rw [List.getD_eq_getElem?_getD, List.getElem?_eq_getElem (show i < (allM f n n).length by rw [allM_len]; exact hi)]
    exact List.getElem_mem _)⟩
  obtain ⟨M, hMM⟩ : ∃ M, M = allM f n n := ⟨_, rfl⟩
  rw [← hMM] at HML HMT ⊢
  have HMM := Aside0.mk hMM
  clear hM hcan gr hMM
  go_enter Tryd.func54, Tryd.ntmps54
  go_wp2_with fail
  obtain ⟨gs, hgs⟩ : ∃ gs, gs = w.heap.size := ⟨_, rfl⟩
  have HST := Aside0.mk (blk_new w (.cells (rowB (bitRow 0 n)) 4))
  have HGS := Aside0.mk hgs
  have HB0 := Aside0.mk ((Below.refl gs w).alloc (by omega) (.cells (rowB (bitRow 0 n)) 4))
  rw [← hgs] at HST ⊢
  clear hgs hmk
  go_loopw [3, 5, 6, 7, 8] (fun o l _ _ _ wr => ∃ r : Nat, l = .int .i64 (n - r : Nat) ∧ r ≤ n ∧ BRow wr gs n (rem f n r).1 ∧ KS.R 40 wr gs (fun _ => True) o ((allM f n r).map memI) ∧ Below gs w wr) (fun _ l _ _ _ _ => (intOf l).toNat)
  case atStart => exact ⟨0, rfl, by omega, HST.out, Kd.R_nil _ _ _ _ _, HB0.out⟩
  case round =>
    obtain ⟨r, rfl, hr, hR, HO, hB⟩ := hrel
    have HRW := Aside0.mk hR
    clear hR
    by_cases hrn : r < n
    · obtain ⟨l, hl⟩ : ∃ l, l = n - r := ⟨_, rfl⟩
      have hl0 : 0 < l := by omega
      have d0 : decide (0 < (l : Int)) = true := by simp; omega
      have hw : IntKind.i64.wrap ((l : Int) - 1) = ((l - 1 : Nat) : Int) := by rw [IntWalk.i64_in _ (by omega)]; omega
      have hl64 : l ≤ 64 := by omega
      rw [← hl]
      have HLR := Aside0.mk hl
      clear hl
      obtain ⟨v, hv, hvn, hvd, hvs⟩ := findTo_pos f n (rem f n r).1 n (HCAN.out r hrn)
      have HNG := Aside0.mk ((findTo_neg f n (rem f n r).1 v).1 (first_neg hv hvn))
      have HRS : Aside0 ((rem f n (r + 1)).1 = (rem f n r).1 ||| 2 ^ v) := ⟨by rw [rem, hv, Int.toNat_natCast]⟩
      have HAS : Aside0 (allM f n (r + 1) = allM f n r ++ [andn (f v) (rem f n r).1 ||| 2 ^ v]) := ⟨by rw [allM, mskR, hv, Int.toNat_natCast]⟩
      have hal : ((allM f n r).map memI).length = r := by rw [List.length_map, allM_len]
      generalize (rem f n r).1 = d at *
      generalize allM f n r = Ms at *
      have HVS := Aside0.mk hvs
      have HVD := Aside0.mk hvd
      have hglt : gs < wr.heap.size := blk_lt HRW.out
      clear hv hvs hvd
      go_wp2_with fail
      obtain ⟨wo, rfl⟩ : ∃ wo : World, wo = wr := ⟨_, rfl⟩
      obtain ⟨oo, hoo⟩ : ∃ oo, oo = u3 := ⟨_, rfl⟩
      rw [← hoo] at HO ⊢
      clear hoo
      go_loopw [3, 6, 7, 8] (fun o i _ _ wr => ∃ q : Nat, i = .int .i64 q ∧ q ≤ v ∧ o = oo ∧ wr = wo) (fun _ i _ _ _ => n - (intOf i).toNat)
      case atStart => exact ⟨0, rfl, by omega, rfl, rfl⟩
      case round =>
        obtain ⟨q, rfl, hq, ho3, hwo⟩ := hrel
        subst ho3
        subst hwo
        have hqn : q < n := by omega
        have HMr := Aside0.mk (Mat_below HM.out (by have := hB; rw [HGS.out] at this; exact this))
        have c1 := HRW.out.at_ hqn
        have HSI := Aside0.mk (simp_any f n g gs cc n d q wr hn hqn HMr.out HRW.out)
        by_cases hqv : q < v
        · have hng := HNG.out q hqv
          cases h1 : d.testBit q with
          | true =>
            rw [h1] at c1
            clear h1 HSI hng
            go_wp2_with fail
            exact ⟨⟨q + 1, by go_num, by omega, rfl, trivial⟩, by simp [intOf]; omega⟩
          | false =>
            rw [h1] at c1
            have h2 : simpB f n d q = false := by
              cases e : simpB f n d q
              · rfl
              · exact absurd ⟨h1, (simpB_iff f n d q).1 e⟩ hng
            rw [h2] at HSI
            clear h1 h2 hng
            go_wp2_with (go_at_call 63; go_must (refine HSI.out.mono ?_); rintro e w5 ⟨rfl, rfl⟩)
            exact ⟨⟨q + 1, by go_num, by omega, rfl, trivial⟩, by simp [intOf]; omega⟩


        · obtain rfl : q = v := by omega
          rw [HVD.out] at c1
          rw [(simpB_iff f n d q).2 HVS.out] at HSI
          obtain ⟨u, hu⟩ : ∃ u, u = andn (f q) d ||| 2 ^ q := ⟨_, rfl⟩
          have HU : Aside0 (∀ j, u.testBit j = ((f q).testBit j && !d.testBit j || decide (q = j))) := ⟨fun j => by rw [hu, Nat.testBit_or, andn_bit, Nat.testBit_two_pow]⟩
          rw [← hu] at HAS
          clear hu
          obtain ⟨w2, hw2⟩ : ∃ w2 : World, w2 = wr := ⟨_, rfl⟩
          subst hw2
          go_wp2_with (go_at_call 63; go_must (refine HSI.out.mono ?_); rintro e w5 ⟨rfl, hw5⟩; rw [hw5]; clear hw5 w5)
          have HOb : Aside0 (KS.R 40 w2 gs (fun k => k < w2.heap.size) u3 (Ms.map memI)) := ⟨Kd.R_mono (Kd.R_bound HO) (fun k hk => hk.2.2.1)⟩
          clear c1
          go_loopw [7, 8] (fun lv k wr => ∃ j : Nat, k = .int .i64 j ∧ j ≤ n ∧ KI.R 3 wr w2.heap.size (fun _ => True) lv (lTo u j) ∧ Below w2.heap.size w2 wr) (fun _ k _ => n - (intOf k).toNat)
          case atStart => exact ⟨0, rfl, by omega, Kd.R_nil _ _ _ _ _, Below.refl _ _⟩
          case round =>
            obtain ⟨j, rfl, hj, HL, hBj⟩ := hrel
            have hll := lTo_len u j
            have HBj := Aside0.mk (below_then hB (Nat.le_of_lt hglt) hBj)
            have hszj : w2.heap.size ≤ wr.heap.size := hBj.size
            by_cases hjn : j < n
            · have HMj := Aside0.mk (Mat_below HM.out (by have := HBj.out; rw [HGS.out] at this; exact this))
              have c1 := (HRW.out.below hBj).at_ hjn
              have c3 := mat_row HMj.out hqn
              have c4 := mat_at HMj.out hqn hjn
              have hub := HU.out j
              have HLS := Aside0.mk (lTo_step u j)
              have NO : u.testBit j = false → Aside0 (lTo u (j + 1) = lTo u j) := fun h => ⟨by rw [HLS.out, h]; simp⟩
              have YES : u.testBit j = true → Aside0 (lTo u (j + 1) = lTo u j ++ [(j : Int)]) := fun h => ⟨by rw [HLS.out, h]; simp⟩
              by_cases e : j = q
              · subst e
                have hb : u.testBit j = true := by rw [hub]; simp
                have L2 := YES hb
                obtain ⟨inn, how⟩ := Kd.R_own HL
                clear NO YES HLS hub hb
                go_wp2_with (at_builtin; go_must (refine Kd.R_append KI w2.heap.size (by rfl) (.tmp 66) (.tmp 68) 40 3 (.int .i64 0) 8 (by rfl) Tryd.underlying40 i3 rfl (by decide) (by decide) _ (lTo u j) (j : Int) [.int .i64 j] (fun _ => True) (fun _ => False) (by rfl) (by simp [Act.eval]) rfl (fun _ h => h.elim) (fun _ _ => trivial) HL (Below.refl _ _) hszj (by omega) ?_); intro v1 w6 HO6 HBx hgr _)
                exact ⟨⟨j + 1, by go_num, by omega, by rw [L2.out]; exact HO6, hBj.grown hgr hBj.size (fun k hk => own_base how k hk)⟩, by simp [intOf]; omega⟩
              · have hne1 : ((j : Int) == (q : Int)) = false := by simp only [beq_eq_false_iff_ne, ne_eq]; omega
                have hne2 : (j == q) = false := by simpa using e
                have hne3 : decide (q = j) = false := by simp only [decide_eq_false_iff_not]; omega
                rw [hne3, Bool.or_false] at hub
                clear hne3 e
                cases h1 : (f q).testBit j with
                | false =>
                  rw [h1] at c4
                  have hb : u.testBit j = false := by rw [hub, h1]; rfl
                  clear h1
                  have L2 := NO hb
                  clear NO YES HLS hub hb
                  go_wp2_with fail
                  exact ⟨⟨j + 1, by go_num, by omega, by rw [L2.out]; exact HL, hBj⟩, by simp [intOf]; omega⟩
                | true =>
                  rw [h1] at c4
                  cases h2 : d.testBit j with
                  | true =>
                    rw [h2] at c1
                    have hb : u.testBit j = false := by rw [hub, h1, h2]; rfl
                    clear h1 h2
                    have L2 := NO hb
                    clear NO YES HLS hub hb
                    go_wp2_with fail
                    exact ⟨⟨j + 1, by go_num, by omega, by rw [L2.out]; exact HL, hBj⟩, by simp [intOf]; omega⟩
                  | false =>
                    rw [h2] at c1
                    have hb : u.testBit j = true := by rw [hub, h1, h2]; rfl
                    clear h1 h2
                    have L2 := YES hb
                    obtain ⟨inn, how⟩ := Kd.R_own HL
                    clear NO YES HLS hub hb
                    go_wp2_with (at_builtin; go_must (refine Kd.R_append KI w2.heap.size (by rfl) (.tmp 66) (.tmp 68) 40 3 (.int .i64 0) 8 (by rfl) Tryd.underlying40 i3 rfl (by decide) (by decide) _ (lTo u j) (j : Int) [.int .i64 j] (fun _ => True) (fun _ => False) (by rfl) (by simp [Act.eval]) rfl (fun _ h => h.elim) (fun _ _ => trivial) HL (Below.refl _ _) hszj (by omega) ?_); intro v1 w6 HO6 HBx hgr _)
                    exact ⟨⟨j + 1, by go_num, by omega, by rw [L2.out]; exact HO6, hBj.grown hgr hBj.size (fun k hk => own_base how k hk)⟩, by simp [intOf]; omega⟩
            · obtain rfl : j = n := by omega
              have hub : ∀ k, u.testBit k = true → k < j := by
                intro k hk
                rw [HU.out k] at hk
                by_cases e : q = k
                · omega
                · have : (f q).testBit k = true := by
                    cases e2 : (f q).testBit k
                    · rw [e2] at hk; simp [e] at hk
                    · rfl
                  exact (HGR.out.lt q k this).2
              rw [lTo_full hn hub] at HL
              obtain ⟨A9, c9, rfl, hc9, hC9⟩ := Kd.R_reads HL
              have hm64 := memI_len u
              have HM9 : KI.R 3 wr gs (fun k => True ∧ some k ≠ u3.ownBlock) (.slice A9 (memI u).length c9) (memI u) := Kd.R_lower (Kd.R_mono (Kd.R_bound HL) (fun k hk => ⟨trivial, fun e => by
                have h1 := HOb.out.1 k e.symm
                have h2 := hk.2.1
                omega⟩)) (by omega)
              have HOn : KS.R 40 wr gs (fun _ => True) u3 (Ms.map memI) := Kd.R_mono (Kd.R_below HOb.out hBj) (fun _ _ => trivial)
              have HRj := Aside0.mk (HRW.out.below hBj)
              have hneo := Aside0.mk (Kd.R_ne HOn HRj.out (by decide))
              have HOn := Aside0.mk HOn
              have HM9 := Aside0.mk HM9
              clear hC9 hub HL HO
              go_wp2_with (at_builtin; go_must (refine Kd.R_append KS gs (by rfl) (.tmp 70) (.tmp 72) 34 40 (.slice none 0 0) 24 (by rfl) Tryd.underlying34 i40 rfl (by decide) (by decide) _ (Ms.map memI) (memI u) [.slice A9 (memI u).length c9] (fun _ => True) (fun k => True ∧ some k ≠ u3.ownBlock) (by rfl) (by rfl) ⟨_, rfl, HM9.out⟩ (fun k hk => ⟨trivial, hk.2⟩) (fun _ _ => trivial) HOn.out HBj.out (by omega) (by omega) ?_); intro v1 w11 HO11 HB11 hgr _
                           have HR11 : Aside0 (BRow w11 gs j d) := ⟨blk_grown HRj.out hgr hneo.out⟩
                           have HO11 := Aside0.mk HO11
                           have c11 := HR11.out.at_ hqn
                           have hfz := blk_frozen HR11.out q)
              refine ⟨⟨r + 1, by first | (rw [hw, show l - 1 = j - (r + 1) by have := HLR.out; omega]) | (rw [show j - (r + 1) = l - 1 by have := HLR.out; omega]), by omega, ?_, ?_, HB11.setCell (by simp) _⟩, by simp [intOf]; omega⟩
              · have := blk_set HR11.out q (.bool true)
                rw [rowB_set, bitRow_set] at this
                rw [HRS.out]
                exact this
              · rw [HAS.out, List.map_append]
                exact Kd.R_set HO11.out HR11.out (by decide) q _
    · obtain rfl : r = n := by omega
      rw [Nat.sub_self, ← HMM.out] at *
      have hLl : (M.map memI).length = r := by rw [List.length_map, HML.out]
      have hget : ∀ i, i < r → (M.map memI).getD i [] = memI (M.getD i 0) := fun i hi => by
        have : i < M.length := by rw [HML.out]; exact hi
        simp [List.getD_eq_getElem?_getD, this]
      have HGET := Aside0.mk hget
      obtain ⟨A3, c3, rfl, hc3, hC3⟩ := Kd.R_reads HO
      rw [hLl] at hc3 hC3 HO ⊢
      have hgs5 : gs < wr.heap.size := blk_lt HRW.out
      have HA : Aside0 (KS.R 40 wr gs (fun k => k < wr.heap.size) (.slice A3 r c3) (M.map memI)) := ⟨Kd.R_mono (Kd.R_bound HO) (fun k hk => hk.2.2.1)⟩
      have HB5 := Aside0.mk hB
      clear HO hC3 hget hB HRW
      go_wp2_with fail
      obtain ⟨w5, rfl⟩ : ∃ w5 : World, w5 = wr := ⟨_, rfl⟩
      go_loopw [9, 10, 11, 12] (fun o i _ _ wr => ∃ q : Nat, i = .int .i64 q ∧ q ≤ r ∧ KS.R 40 wr gs (fun _ => True) o (rawTo M q) ∧ Aside0 (∀ k, o.ownBlock = some k → w5.heap.size ≤ k) ∧ Below w5.heap.size w5 wr) (fun _ i _ _ _ => r - (intOf i).toNat)
      case atStart => exact ⟨0, rfl, by omega, Kd.R_nil _ _ _ _ _, ⟨fun k hk => by simp [Value.ownBlock] at hk⟩, Below.refl _ _⟩
      case round =>
        obtain ⟨q, rfl, hq, HO2, HOB, hB2⟩ := hrel
        by_cases hqr : q < r
        · have HAr := Kd.R_below HA.out hB2
          obtain ⟨inn, how⟩ := Kd.R_own HAr
          obtain ⟨ga, cap, he, _, _⟩ := how.form (by omega)
          injection he with he1 he2 he3
          subst he1
          clear how HAr he2 he3
          go_wp2_with fail
          obtain ⟨w6, rfl⟩ : ∃ w6 : World, w6 = wr := ⟨_, rfl⟩
          go_loopw [11, 12] (fun kp j wr => ∃ j' : Nat, j = .int .i64 j' ∧ j' ≤ r ∧ kp = .bool (!insideTo M q j') ∧ Aside0 (∃ m, wr = w6.drewN m)) (fun _ j _ => r - (intOf j).toNat)
          case atStart => exact ⟨0, rfl, by omega, rfl, ⟨0, rfl⟩⟩
          case round =>
            obtain ⟨j, rfl, hj, rfl, HW⟩ := hrel
            have HArr : KS.R 40 wr gs (fun k => k < w5.heap.size) (.slice (some ⟨ga, 0, none⟩) r c3) (M.map memI) := Kd.R_below HA.out (below_then hB2 hB2.size (below_drewd HW.out))
            obtain ⟨Ax, kx, cx, fx, Cx, Mx⟩ := elem_at HArr q hqr
            rw [HGET.out q hqr] at cx Cx Mx
            by_cases hjr : j < r
            · obtain ⟨Ay, ky, cy, fy, Cy, My⟩ := elem_at HArr j hjr
              rw [HGET.out j hjr] at cy Cy
              have HIN : Aside0 (insideTo M q (j + 1) = (insideTo M q j || (q != j && andn (M.getD q 0) (M.getD j 0) == 0))) := ⟨rfl⟩
              have hdc : decide (comm (memI (M.getD q 0)) (memI (M.getD j 0)) = (memI (M.getD q 0)).length) = (andn (M.getD q 0) (M.getD j 0) == 0) := by
                rw [Bool.eq_iff_iff, decide_eq_true_eq, comm_sub _ _ (HMT.out q hqr), beq_iff_eq, ChC.andn_zero]
              have lx := memI_len (M.getD q 0)
              have ly := memI_len (M.getD j 0)
              have hca := fun m => subset_any (memI (M.getD q 0)) (memI (M.getD j 0)) Ax Ay kx ky (wr.drewN m) (Kd.C_drewN Cx m) (Kd.C_drewN Cy m) (by omega) (by omega)
              rw [hdc] at hca
              have HCA := Aside0.mk hca
              clear hca hdc Cx Cy Mx My fx fy HArr
              generalize (andn (M.getD q 0) (M.getD j 0) == 0) = b at *
              generalize memI (M.getD q 0) = x at *
              generalize memI (M.getD j 0) = y at *
              generalize hin : insideTo M q j = b0 at *
              cases b0 with
              | true =>
                have HIN2 : Aside0 (insideTo M q (j + 1) = true) := ⟨by rw [HIN.out]; rfl⟩
                clear hin HIN HCA
                simp only [Bool.not_true]
                go_wp2_with fail
                go_quiet (fail)
                go_wp2_with fail
                exact ⟨⟨j + 1, by go_num, by omega, by rw [HIN2.out]; rfl, ⟨drewd_more HW.out _⟩⟩, by simp [intOf]; omega⟩
              | false =>
                by_cases e : j = q
                · subst e
                  have HIN2 : Aside0 (insideTo M j (j + 1) = false) := ⟨by rw [HIN.out]; simp⟩
                  clear hin HIN HCA
                  simp only [Bool.not_false]
                  go_wp2_with fail
                  go_quiet (fail)
                  go_wp2_with fail
                  exact ⟨⟨j + 1, by go_num, by omega, by rw [HIN2.out]; rfl, ⟨drewd_more HW.out _⟩⟩, by simp [intOf]; omega⟩
                · have hne1 : ((j : Int) == (q : Int)) = false := by simp only [beq_eq_false_iff_ne, ne_eq]; omega
                  have hne2 : (j == q) = false := by simpa using e
                  have HIN2 : Aside0 (insideTo M q (j + 1) = b) := ⟨by
                    have : (q != j) = true := by simp only [bne_iff_ne, ne_eq]; omega
                    rw [HIN.out, this]; simp⟩
                  clear hin HIN e
                  simp only [Bool.not_false]
                  go_wp2_with fail
                  go_quiet ((go_at_call 64; exact Calls.quiet_of (HCA.out _)))
                  go_wp2_with fail
                  exact ⟨⟨j + 1, by go_num, by omega, by rw [HIN2.out], ⟨drewd_more HW.out _⟩⟩, by simp [intOf]; omega⟩
            · obtain rfl : j = r := by omega
              have HRT : Aside0 (rawTo M (q + 1) = if insideTo M q j then rawTo M q else rawTo M q ++ [memI (M.getD q 0)]) := ⟨by rw [rawTo, HML.out]⟩
              have HO3 : KS.R 40 wr gs (fun _ => True) u9 (rawTo M q) := Kd.R_below HO2 (below_drewd HW.out)
              have hB3 : Below w5.heap.size w5 wr := below_then hB2 hB2.size (below_drewd HW.out)
              have lx := memI_len (M.getD q 0)
              have hrl := rawTo_len M q
              generalize memI (M.getD q 0) = x at *
              generalize hin : insideTo M q j = b0 at *
              cases b0 with
              | true =>
                have HRT2 : Aside0 (rawTo M (q + 1) = rawTo M q) := ⟨by rw [HRT.out]; rfl⟩
                clear hin HRT
                simp only [Bool.not_true]
                go_wp2_with fail
                exact ⟨⟨q + 1, by go_num, by omega, by rw [HRT2.out]; exact HO3, HOB, hB3⟩, by simp [intOf]; omega⟩
              | false =>
                have HRT2 : Aside0 (rawTo M (q + 1) = rawTo M q ++ [x]) := ⟨by rw [HRT.out]; rfl⟩
                have HB9 := Aside0.mk (below_then HB5.out (Nat.le_of_lt hgs5) hB3)
                have hsz9 := hB3.size
                have hok9 : ∀ k, (k < w5.heap.size ∧ k ≠ ga) → True ∧ some k ≠ u9.ownBlock := fun k hk => ⟨trivial, fun e => by
                  have h1 := HOB.out k e.symm
                  have h2 := hk.1
                  omega⟩
                clear hin HRT
                simp only [Bool.not_false]
                go_wp2_with (at_builtin; go_must (refine Kd.R_append KS gs (by rfl) (.tmp 108) (.tmp 113) 34 40 (.slice none 0 0) 24 (by rfl) Tryd.underlying34 i40 rfl (by decide) (by decide) _ (rawTo M q) x [.slice Ax x.length kx] (fun _ => True) _ (by rfl) (by rfl) Mx hok9 (fun _ _ => trivial) HO3 HB9.out (by omega) (by omega) ?_); intro v1 w11 HO11 HB11 hgr hat)
                refine ⟨⟨q + 1, by go_num, by omega, by rw [HRT2.out]; exact HO11, ⟨fun k hk => ?_⟩, hB3.grown hgr hB3.size (fun k hk => HOB.out k hk)⟩, by simp [intOf]; omega⟩
                rcases hat with hat | ⟨b, hb, hle⟩
                · rw [hat] at hk; exact HOB.out k hk
                · rw [hb] at hk; injection hk with hk; omega
        · obtain rfl : q = r := by omega
          have hLs := rawTo_short M q
          have hLn := rawTo_len M q
          have HB9 : Below gs w wr := below_then HB5.out (Nat.le_of_lt hgs5) hB2
          obtain ⟨L, hL⟩ : ∃ L, L = rawTo M q := ⟨_, rfl⟩
          rw [← hL] at HO2 hLs hLn
          have HLd := Aside0.mk hL
          have HSh := Aside0.mk hLs
          clear hL hLs
          obtain ⟨A9, c9, rfl, hc9, hC9⟩ := Kd.R_reads HO2
          obtain ⟨ln, hln⟩ : ∃ ln, ln = L.length := ⟨_, rfl⟩
          rw [← hln] at hc9 HO2 hLn ⊢
          have HLN := Aside0.mk hln
          clear hC9 hln HOB hB2
          go_wp2_with fail
          have hln64 : ln ≤ 64 := by omega
          go_loopw [13, 14] (fun i _ wr => ∃ k : Nat, i = .int .i64 k ∧ 1 ≤ k ∧ (k ≤ ln ∨ k = 1) ∧ KS.R 40 wr gs (fun _ => True) (.slice A9 ln c9) (insTo L (k - 1)) ∧ Below gs w wr) (fun i _ _ => ln + 1 - (intOf i).toNat)
          case atStart => exact ⟨1, rfl, by omega, by omega, HO2, HB9⟩
          case round =>
            obtain ⟨k, rfl, hk1, hk, hR, hB⟩ := hrel
            by_cases hlt : k < ln
            · have d0 : decide ((k : Int) < (ln : Int)) = true := by simp; omega
              have hsn := insTo_short L HSh.out (k - 1) (by have := HLN.out; omega)
              have hlen : (insTo L (k - 1)).length = ln := by rw [insTo_len, HLN.out]
              obtain ⟨inn, how⟩ := Kd.R_own hR
              obtain ⟨g9, cap, he, hg9, _⟩ := how.form (by omega)
              injection he with he1 he2 he3
              subst he1
              have HI : Aside0 (down k (insTo L (k - 1)) = insTo L k) := ⟨by obtain ⟨z, rfl⟩ : ∃ z, k = z + 1 := ⟨k - 1, by omega⟩; rfl⟩
              have hln := Aside0.mk hlen
              generalize insTo L (k - 1) = ys at *
              have HSn := Aside0.mk hsn
              clear hsn hlen how he2 he3
              go_wp2_with fail
              obtain ⟨wo, rfl⟩ : ∃ wo : World, wo = wr := ⟨_, rfl⟩
              go_loopw [14] (fun jj wr => ∃ (j : Nat) (zs : List (List Int)), jj = .int .i64 j ∧ j ≤ k ∧ KS.R 40 wr gs (fun _ => True) (.slice (some ⟨g9, 0, none⟩) ln c9) zs ∧ Below gs w wr ∧ Aside0 (down j zs = insTo L k ∧ zs.length = ln ∧ Short zs)) (fun jj _ => (intOf jj).toNat)
              case atStart => exact ⟨k, ys, rfl, by omega, hR, hB, ⟨HI.out, hln.out, HSn.out⟩⟩
              case round =>
                obtain ⟨j, zs, rfl, hj, hR, hB, HD⟩ := hrel
                by_cases hj0 : j = 0
                · subst hj0
                  go_wp2_with fail
                  go_quiet (fail)
                  go_wp2_with fail
                  have h := HD.out.1
                  rw [down] at h
                  exact ⟨⟨k + 1, by go_num, by omega, by omega, by have := R_drew hR nq; simpa [h] using this, pw_below_drewN hB nq⟩, by simp [intOf]; omega⟩
                · obtain ⟨A1, k1, c1, f1, C1, M1⟩ := elem_at hR j (by omega)
                  obtain ⟨A2, k2, c2, f2, C2, M2⟩ := elem_at hR (j - 1) (by omega)
                  have l1 : (zs.getD j []).length ≤ 1000000 := HD.out.2.2 _ (getD_mem (by have := HD.out.2.1; omega))
                  have l2 : (zs.getD (j - 1) []).length ≤ 1000000 := HD.out.2.2 _ (getD_mem (by have := HD.out.2.1; omega))
                  have HDn : Aside0 (down j zs = if lexCmp (zs.getD j []) (zs.getD (j - 1) []) < 0 then down (j - 1) (sw zs (j - 1)) else zs) := ⟨by obtain ⟨z, rfl⟩ : ∃ z, j = z + 1 := ⟨j - 1, by omega⟩; rfl⟩
                  have hw : IntKind.i64.wrap ((j : Int) - 1) = ((j - 1 : Nat) : Int) := by rw [IntWalk.i64_in _ (by omega)]; omega
                  have hw0 : (0 : Int) ≤ ((j - 1 : Nat) : Int) := by omega
                  have hw1 : ((j - 1 : Nat) : Int) < (ln : Int) := by omega
                  have hw2 : (j : Int) < (ln : Int) := by omega
                  have d4 : decide (0 < (j : Int)) = true := by simp; omega
                  have d5 : decide (0 < j) = true := by simp; omega
                  have hca := fun m => less_any (zs.getD j []) (zs.getD (j - 1) []) A1 A2 k1 k2 (wr.drewN m) (C_drew C1 m) (C_drew C2 m) l1 l2
                  have HM1 := Aside0.mk M1
                  have HM2 := Aside0.mk M2
                  clear M1 M2 C1 C2
                  obtain ⟨x, hx⟩ : ∃ x, x = zs.getD j [] := ⟨_, rfl⟩
                  obtain ⟨y, hy⟩ : ∃ y, y = zs.getD (j - 1) [] := ⟨_, rfl⟩
                  rw [← hx] at c1 HM1 l1 HDn hca
                  rw [← hy] at c2 HM2 l2 HDn hca
                  have Hx := Aside0.mk hx
                  have Hy := Aside0.mk hy
                  clear hx hy
                  by_cases hz : lexCmp x y < 0
                  · have hdn := HDn.out
                    rw [if_pos hz] at hdn
                    rw [decide_eq_true hz] at hca
                    have HCA := Aside0.mk hca
                    have HDn' := Aside0.mk hdn
                    clear hdn HDn hz hca
                    go_wp2_with fail
                    go_quiet ((go_at_call 65; exact Calls.quiet_of (HCA.out _)))
                    go_wp2_with fail
                    go_region
                    go_wp2_with fail
                    have hz1 := HDn'.out
                    refine ⟨⟨j - 1, sw zs (j - 1), rfl, by omega, swap_S (R_drew hR (nq + 1)) j (by omega) (by omega) Hx.out Hy.out (M_drew HM2.out _) (M_drew HM1.out _), ((pw_below_drewN hB (nq + 1)).setCell (by simp; omega) _).setCell (by simp; omega) _, ⟨by rw [← hz1]; exact HD.out.1, by rw [sw_len]; exact HD.out.2.1, ?_⟩⟩, by simp [intOf]; omega⟩
                    have hln := HD.out.2.1
                    obtain ⟨z, rfl⟩ : ∃ z, j = z + 1 := ⟨j - 1, by omega⟩
                    exact sw_short HD.out.2.2 (by omega)
                  · have hdn := HDn.out
                    rw [if_neg hz] at hdn
                    rw [decide_eq_false hz] at hca
                    have HCA := Aside0.mk hca
                    have HDn' := Aside0.mk hdn
                    clear hdn HDn hz hca
                    go_wp2_with fail
                    go_quiet ((go_at_call 65; exact Calls.quiet_of (HCA.out _)))
                    go_wp2_with fail
                    have h := HD.out.1
                    rw [HDn'.out] at h
                    exact ⟨⟨k + 1, by go_num, by omega, by omega, by have := R_drew hR nq; simpa [h] using this, pw_below_drewN hB nq⟩, by simp [intOf]; omega⟩
            · have d0 : decide ((k : Int) < (ln : Int)) = false := by simp; omega
              have HE : Aside0 (insTo L (k - 1) = sortL (rawTo M q)) := ⟨by rw [sortL, ← HLd.out, ← HLN.out, show k - 1 = ln - 1 by omega]⟩
              go_wp2_with fail
              go_ret
              rw [HE.out] at hR
              exact ⟨_, rfl, by rw [HGS.out] at hR; exact hR, by rw [HGS.out] at hB; exact hB⟩
end Go.Proofs.YtkkfoonaobehaaaDoor.RMax
