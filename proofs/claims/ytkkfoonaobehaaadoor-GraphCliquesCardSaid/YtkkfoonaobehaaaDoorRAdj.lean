import Derived.Test.YtkkfoonaobehaaaDoorRd
namespace Go.Proofs.YtkkfoonaobehaaaDoor.RAdj
open Go.RowKit Go.Proofs.YtkkfoonaobehaaaDoorW.PrintWords Go.Proofs.YtkkfoonaobehaaaDoor.Bits Go.Proofs.YtkkfoonaobehaaaDoor.Low Go.Proofs.YtkkfoonaobehaaaDoor.Sets Go.Proofs.YtkkfoonaobehaaaDoor.Read Go.Proofs.YtkkfoonaobehaaaDoor.Ext Go.Proofs.YtkkfoonaobehaaaDoor.Mk Go.Proofs.YtkkfoonaobehaaaDoor.Tr Go.Proofs.YtkkfoonaobehaaaDoor.Ref Go.Proofs.YtkkfoonaobehaaaDoor.Keep Go.Proofs.YtkkfoonaobehaaaDoor.Val Go.Proofs.YtkkfoonaobehaaaDoor.Adj Go.Proofs.YtkkfoonaobehaaaDoor.Rd
set_option maxHeartbeats 800000
set_option maxRecDepth 100000
set_option linter.unusedVariables false

theorem okList_in (n : Int) : ∀ (E : List (Int × Int)) (p : Option (Int × Int)), okList n p E = true → E.all (inR n) = true
  | [], _, _ => rfl
  | e :: E, p, h => by
    rw [okList, Bool.and_eq_true] at h
    rw [List.all_cons, okList_in n E _ h.2, Bool.and_true]
    have h1 := h.1
    simp only [okE, Bool.and_eq_true, decide_eq_true_eq] at h1
    simp [inR]
    omega
theorem okG_in (n : Int) (E : List (Int × Int)) (h : okG n E = true) : E.all (inR n) = true := by
  rw [okG, Bool.and_eq_true] at h
  exact okList_in n E none h.2
theorem radj_any (n : Int) (E : List (Int × Int)) (i j : Int) (A : Option Addr) (c : Nat) (w : World) (hE : KE.C w A E.length E) (hl : E.length ≤ 1000000) :
    Calls Tryd.prog 37 #[.agg #[.int .i64 n, .slice A E.length c], .int .i64 i, .int .i64 j] w fun e w' => e = .returned (.bool (adjB n E i j)) ∧ Below w.heap.size w w' := by
  have HC := Aside0.mk hE
  have hval := fun (w : World) (h : KE.C w A E.length E) => rvalid_any n E A c w h hl
  clear hE
  obtain ⟨r, hr⟩ : ∃ r, r = adjB n E i j := ⟨_, rfl⟩
  have HRR := Aside0.mk hr
  rw [← hr]
  clear hr
  by_cases ok : okG n E = true
  · obtain ⟨hn0, hn1, hbd⟩ := okG_bd ok
    have hin := okG_in n E ok
    rw [ok] at hval
    have HV := Aside0.mk hval
    have hr : r = (decide (0 ≤ i) && decide (i < n) && decide (0 ≤ j) && decide (j < n) && (joins f0 E i.toNat).testBit j.toNat) := by rw [HRR.out, adjB, ok, Bool.true_and]
    have HIN := Aside0.mk hin
    clear hval ok HRR hin hbd
    have HR1 := Aside0.mk hr
    clear hr
    by_cases q1 : 0 ≤ i
    · have d1 : decide (0 ≤ i) = true := by simpa using q1
      by_cases q2 : i < n
      · have d2 : decide (i < n) = true := by simpa using q2
        by_cases q3 : 0 ≤ j
        · have d3 : decide (0 ≤ j) = true := by simpa using q3
          by_cases q4 : j < n
          · have d4 : decide (j < n) = true := by simpa using q4
            obtain ⟨i, rfl⟩ := Int.eq_ofNat_of_zero_le q1
            obtain ⟨j, rfl⟩ := Int.eq_ofNat_of_zero_le q3
            obtain ⟨m, rfl⟩ := Int.eq_ofNat_of_zero_le hn0
            have hi : i < m := by omega
            have hj : j < m := by omega
            have hr : r = (joins f0 E i).testBit j := by rw [HR1.out, d1, d2, d3, d4]; simp
            have HR2 := Aside0.mk hr
            clear hr HR1
            go_enter Tryd.func37, Tryd.ntmps37
            go_wp2_with (first
              | (go_at_call 35; go_must (refine (HV.out _ (Kd.C_below HC.out ((Below.refl _ _).alloc (Nat.le_refl _) _))).mono ?_); rintro e w1 ⟨rfl, HB1⟩; have HG1 := blk_below (blk_new w (.cells #[.int .i64 m, .slice A E.length c] 25)) HB1; have g0 : w1.cell? ⟨w.heap.size, 0, none⟩ = some (.int .i64 m) := (by simpa using blk_cell HG1 0); have g1 : w1.cell? ⟨w.heap.size, 1, none⟩ = some (.slice A E.length c) := (by simpa using blk_cell HG1 1); have HBw : Below w.heap.size w w1 := below_then ((Below.refl _ _).alloc (Nat.le_refl _) _) (by simp) HB1; clear HG1 HB1)
              | (go_at_call 46; go_must (refine (rread_any m E A c _ (by omega) (Kd.C_below HC.out HBw) hl HIN.out).mono ?_); rintro e w2 ⟨g, rfl, hg, HM, HB2⟩
                 have m1 : w2.cell? ⟨g, i, none⟩ = some (.slice (some ⟨g + 1 + i, 0, none⟩) m m) := (blk_cell HM.1 i).trans (by rw [rowS_at _ _ _ _ hi, if_pos hi])
                 have m2 : w2.cell? ⟨g + 1 + i, j, none⟩ = some (.bool ((joins f0 E i).testBit j)) := (blk_cell (HM.2 i hi) j).trans (by rw [rowB_at _ j (by rw [bitRow_len]; exact hj), bitRow_get _ _ _ hj])
                 have HBw2 := below_then HBw HBw.size HB2
                 clear HM HB2))
            go_ret
            exact ⟨by rw [HR2.out]; rfl, HBw2⟩
          · have d4 : decide (j < n) = false := by simpa using q4
            have hr : r = false := by rw [HR1.out, d1, d2, d3, d4]; simp
            have HR2 := Aside0.mk hr
            clear hr HR1
            go_enter Tryd.func37, Tryd.ntmps37
            go_wp2_with (go_at_call 35; go_must (refine (HV.out _ (Kd.C_below HC.out ((Below.refl _ _).alloc (Nat.le_refl _) _))).mono ?_); rintro e w1 ⟨rfl, HB1⟩; have HG1 := blk_below (blk_new w (.cells #[.int .i64 n, .slice A E.length c] 25)) HB1; have g0 : w1.cell? ⟨w.heap.size, 0, none⟩ = some (.int .i64 n) := (by simpa using blk_cell HG1 0); have HBw : Below w.heap.size w w1 := below_then ((Below.refl _ _).alloc (Nat.le_refl _) _) (by simp) HB1; clear HG1 HB1)
            go_ret
            exact ⟨by rw [HR2.out]; rfl, HBw⟩
        · have d3 : decide (0 ≤ j) = false := by simpa using q3
          have hr : r = false := by rw [HR1.out, d1, d2, d3]; simp
          have HR2 := Aside0.mk hr
          clear hr HR1
          go_enter Tryd.func37, Tryd.ntmps37
          go_wp2_with (go_at_call 35; go_must (refine (HV.out _ (Kd.C_below HC.out ((Below.refl _ _).alloc (Nat.le_refl _) _))).mono ?_); rintro e w1 ⟨rfl, HB1⟩; have HG1 := blk_below (blk_new w (.cells #[.int .i64 n, .slice A E.length c] 25)) HB1; have g0 : w1.cell? ⟨w.heap.size, 0, none⟩ = some (.int .i64 n) := (by simpa using blk_cell HG1 0); have HBw : Below w.heap.size w w1 := below_then ((Below.refl _ _).alloc (Nat.le_refl _) _) (by simp) HB1; clear HG1 HB1)
          go_ret
          exact ⟨by rw [HR2.out]; rfl, HBw⟩
      · have d2 : decide (i < n) = false := by simpa using q2
        have hr : r = false := by rw [HR1.out, d1, d2]; simp
        have HR2 := Aside0.mk hr
        clear hr HR1
        go_enter Tryd.func37, Tryd.ntmps37
        go_wp2_with (go_at_call 35; go_must (refine (HV.out _ (Kd.C_below HC.out ((Below.refl _ _).alloc (Nat.le_refl _) _))).mono ?_); rintro e w1 ⟨rfl, HB1⟩; have HG1 := blk_below (blk_new w (.cells #[.int .i64 n, .slice A E.length c] 25)) HB1; have g0 : w1.cell? ⟨w.heap.size, 0, none⟩ = some (.int .i64 n) := (by simpa using blk_cell HG1 0); have HBw : Below w.heap.size w w1 := below_then ((Below.refl _ _).alloc (Nat.le_refl _) _) (by simp) HB1; clear HG1 HB1)
        go_ret
        exact ⟨by rw [HR2.out]; rfl, HBw⟩
    · have d1 : decide (0 ≤ i) = false := by simpa using q1
      have hr : r = false := by rw [HR1.out, d1]; simp
      have HR2 := Aside0.mk hr
      clear hr HR1
      go_enter Tryd.func37, Tryd.ntmps37
      go_wp2_with (go_at_call 35; go_must (refine (HV.out _ (Kd.C_below HC.out ((Below.refl _ _).alloc (Nat.le_refl _) _))).mono ?_); rintro e w1 ⟨rfl, HB1⟩; have HG1 := blk_below (blk_new w (.cells #[.int .i64 n, .slice A E.length c] 25)) HB1; have g0 : w1.cell? ⟨w.heap.size, 0, none⟩ = some (.int .i64 n) := (by simpa using blk_cell HG1 0); have HBw : Below w.heap.size w w1 := below_then ((Below.refl _ _).alloc (Nat.le_refl _) _) (by simp) HB1; clear HG1 HB1)
      go_ret
      exact ⟨by rw [HR2.out]; rfl, HBw⟩
  · have ok' : okG n E = false := by simpa using ok
    rw [ok'] at hval
    have HV := Aside0.mk hval
    have hr : r = false := by rw [HRR.out, adjB, ok']; simp
    have HR2 := Aside0.mk hr
    clear hr HRR hval ok ok'
    go_enter Tryd.func37, Tryd.ntmps37
    go_wp2_with (go_at_call 35; go_must (refine (HV.out _ (Kd.C_below HC.out ((Below.refl _ _).alloc (Nat.le_refl _) _))).mono ?_); rintro e w1 ⟨rfl, HB1⟩; have HG1 := blk_below (blk_new w (.cells #[.int .i64 n, .slice A E.length c] 25)) HB1; have g0 : w1.cell? ⟨w.heap.size, 0, none⟩ = some (.int .i64 n) := (by simpa using blk_cell HG1 0); have HBw : Below w.heap.size w w1 := below_then ((Below.refl _ _).alloc (Nat.le_refl _) _) (by simp) HB1; clear HG1 HB1)
    go_ret
    exact ⟨by rw [HR2.out]; rfl, HBw⟩
end Go.Proofs.YtkkfoonaobehaaaDoor.RAdj
