import Derived.Test.YtkkfoonaobehaaaDoorComP
import Derived.Test.YtkkfoonaobehaaaDoorChC
namespace Go.Proofs.YtkkfoonaobehaaaDoor.Less
open Go.RowKit Go.Proofs.YtkkfoonaobehaaaDoorW.PrintWords Go.Proofs.YtkkfoonaobehaaaDoor.Bits Go.Proofs.YtkkfoonaobehaaaDoor.Low Go.Proofs.YtkkfoonaobehaaaDoor.Cmp Go.Proofs.YtkkfoonaobehaaaDoor.Sets Go.Proofs.YtkkfoonaobehaaaDoor.Sort Go.Proofs.YtkkfoonaobehaaaDoor.Tr Go.Proofs.YtkkfoonaobehaaaDoor.Keep Go.Proofs.YtkkfoonaobehaaaDoor.Com
set_option maxHeartbeats 800000
set_option maxRecDepth 100000
set_option linter.unusedVariables false
set_option linter.unusedSimpArgs false
theorem subset_any (xs ys : List Int) (A B : Option Addr) (c d : Nat) (w : World) (hx : KI.C w A xs.length xs) (hy : KI.C w B ys.length ys) (lx : xs.length ≤ 1000) (ly : ys.length ≤ 1000) :
    Calls Tryd.prog 64 #[.slice A xs.length c, .slice B ys.length d] w fun e w' => e = .returned (.bool (decide (comm xs ys = xs.length))) ∧ ∃ m, w' = w.drewN m := by
  have HCO := Aside0.mk (common_any xs ys A B c d w hx hy lx ly)
  have hcm : comm xs ys ≤ 1000000 := Nat.le_trans (comm_le xs ys) (Nat.mul_le_mul lx ly)
  have hd : (((comm xs ys : Nat) : Int) == (xs.length : Int)) = decide (comm xs ys = xs.length) := by
    rw [Bool.eq_iff_iff]; simp only [beq_iff_eq, decide_eq_true_eq]; omega
  generalize decide (comm xs ys = xs.length) = r at *
  generalize comm xs ys = s at *
  clear hx hy
  go_enter Tryd.func64, Tryd.ntmps64
  go_wp2_with (go_at_call 56; go_must (refine HCO.out.mono ?_); rintro e w1 ⟨rfl, HD⟩; have HD := Aside0.mk HD)
  go_ret
  exact ⟨by first | rfl | (rw [hd]; rfl), HD.out⟩
theorem less_any (xs ys : List Int) (A B : Option Addr) (c d : Nat) (w : World) (hx : KI.C w A xs.length xs) (hy : KI.C w B ys.length ys) (lx : xs.length ≤ 1000000) (ly : ys.length ≤ 1000000) :
    Calls Tryd.prog 65 #[.slice A xs.length c, .slice B ys.length d] w fun e w' => e = .returned (.bool (decide (lexCmp xs ys < 0))) ∧ ∃ m, w' = w.drewN m := by
  have HX := Aside0.mk hx
  have HY := Aside0.mk hy
  clear hx hy
  obtain ⟨r, hr⟩ : ∃ r, r = decide (lexCmp xs ys < 0) := ⟨_, rfl⟩
  have HR := Aside0.mk hr
  rw [← hr]
  clear hr
  go_enter Tryd.func65, Tryd.ntmps65
  go_wp2_with fail
  go_loopw [5] (fun i wr => ∃ k : Nat, i = .int .i64 k ∧ k ≤ xs.length ∧ k ≤ ys.length ∧ Aside0 (r = decide (lexCmp (xs.drop k) (ys.drop k) < 0)) ∧ Aside0 (∃ m, wr = w.drewN m)) (fun i _ => xs.length - (intOf i).toNat)
  case atStart => exact ⟨0, rfl, by omega, by omega, ⟨by simpa using HR.out⟩, ⟨⟨0, rfl⟩⟩⟩
  case round =>
    obtain ⟨k, rfl, hk1, hk2, HK, HW⟩ := hrel
    by_cases h1 : k < xs.length
    · obtain ⟨ad, ead, hc⟩ := Kd.at_int (Kd.C_below HX.out (below_drewd HW.out)) k (by omega) (by omega)
      simp only [Int.toNat_natCast] at hc
      cases ead
      by_cases h2 : k < ys.length
      · obtain ⟨ad2, ead2, hc2⟩ := Kd.at_int (Kd.C_below HY.out (below_drewd HW.out)) k (by omega) (by omega)
        simp only [Int.toNat_natCast] at hc2
        cases ead2
        have HD := Aside0.mk (lex_drop xs ys k h1 h2)
        generalize rd xs k = x at *
        generalize rd ys k = y at *
        by_cases h3 : x = y
        · subst h3
          have hD := HD.out
          rw [if_pos (by simp [cmpI])] at hD
          have HD' := Aside0.mk hD
          clear HD hD
          go_wp2_with fail
          go_quiet (fail)
          go_wp2_with fail
          exact ⟨⟨k + 1, by go_num, by omega, by omega, ⟨by rw [HK.out, HD'.out]⟩, ⟨drewd_more HW.out _⟩⟩, by simp [intOf]; omega⟩
        · have hD := HD.out
          have h4 : (x == y) = false := by simpa using h3
          have h5 : (x != y) = true := by simpa using h3
          have hl : decide (x < y) = r := by
            rw [HK.out, hD]
            by_cases q : x < y
            · simp [cmpI, q]
            · have : y < x := by omega
              simp [cmpI, q, this]
          have HL := Aside0.mk hl
          clear HD hD h3 hl
          go_wp2_with fail
          go_quiet (fail)
          go_wp2_with fail
          go_quiet (fail)
          go_wp2_with fail
          go_ret
          exact ⟨by first | rfl | (rw [HL.out]; rfl), by first | exact drewd_more HW.out _ | exact drewd_more (drewd_more HW.out _) _⟩
      · have HD := Aside0.mk (lex_short xs ys k h1 (by omega))
        have h2' : ys.length ≤ k := by omega
        have d2 : decide ((k : Int) < (ys.length : Int)) = false := by simp only [decide_eq_false_iff_not]; omega
        have d3 : decide (xs.length < ys.length) = false := by simp only [decide_eq_false_iff_not]; omega
        have HR3 : Aside0 (r = false) := ⟨by rw [HK.out, HD.out]; rfl⟩
        go_wp2_with fail
        go_ret
        exact ⟨by rw [HR3.out]; rfl, HW.out⟩
    · obtain rfl : k = xs.length := by omega
      by_cases h2 : xs.length < ys.length
      · have HD := Aside0.mk (lex_end xs ys xs.length (by omega) h2)
        have HR3 : Aside0 (r = true) := ⟨by rw [HK.out, HD.out]; rfl⟩
        have d3 : decide (xs.length < ys.length) = true := by simp only [decide_eq_true_eq]; omega
        go_wp2_with fail
        go_ret
        exact ⟨by rw [HR3.out]; rfl, HW.out⟩
      · have HD := Aside0.mk (lex_done xs ys xs.length (by omega) (by omega))
        have HR3 : Aside0 (r = false) := ⟨by rw [HK.out, HD.out]; rfl⟩
        have d3 : decide (xs.length < ys.length) = false := by simp only [decide_eq_false_iff_not]; omega
        go_wp2_with fail
        go_ret
        exact ⟨by rw [HR3.out]; rfl, HW.out⟩
theorem memI_sort (a : Nat) : (memI a).Pairwise (· < ·) := by
  unfold memI
  rw [List.pairwise_map]
  exact (mem_sorted a).imp (fun h => by simpa using h)
theorem comm_sub (a b : Nat) (ha : a < 18446744073709551616) : comm (memI a) (memI b) = (memI a).length ↔ ChC.Sub a b := by
  rw [ComP.comm_filter _ (memI_sort b), List.length_filter_eq_length_iff]
  constructor
  · intro h j hj
    have hj64 : j < 64 := by
      apply Classical.byContradiction
      intro q
      rw [Nat.testBit_lt_two_pow (Nat.lt_of_lt_of_le ha (Nat.pow_le_pow_right (n := 2) (by decide) (show 64 ≤ j by omega)))] at hj
      cases hj
    have := h (j : Int) ((GrP.memI_mem (u := a)).2 ⟨j, rfl, hj64, hj⟩)
    obtain ⟨k, hk, _, hb⟩ := (GrP.memI_mem (u := b)).1 (by simpa using this)
    obtain rfl : j = k := by omega
    exact hb
  · intro h x hx
    obtain ⟨k, rfl, hk, hb⟩ := (GrP.memI_mem (u := a)).1 hx
    simpa using (GrP.memI_mem (u := b)).2 ⟨k, rfl, hk, h k hb⟩
end Go.Proofs.YtkkfoonaobehaaaDoor.Less
