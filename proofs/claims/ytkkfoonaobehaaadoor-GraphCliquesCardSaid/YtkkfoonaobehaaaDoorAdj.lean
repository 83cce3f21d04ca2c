import Derived.Test.YtkkfoonaobehaaaDoorVal
import Derived.Test.YtkkfoonaobehaaaDoorRef
namespace Go.Proofs.YtkkfoonaobehaaaDoor.Adj
open Go.RowKit Go.Proofs.YtkkfoonaobehaaaDoorW.PrintWords Go.Proofs.YtkkfoonaobehaaaDoor.Bits Go.Proofs.YtkkfoonaobehaaaDoor.Low Go.Proofs.YtkkfoonaobehaaaDoor.Sets Go.Proofs.YtkkfoonaobehaaaDoor.Cmp Go.Proofs.YtkkfoonaobehaaaDoor.Read Go.Proofs.YtkkfoonaobehaaaDoor.Search Go.Proofs.YtkkfoonaobehaaaDoor.Ext Go.Proofs.YtkkfoonaobehaaaDoor.Keep
open Go.Proofs.YtkkfoonaobehaaaDoor.Kit (store_row R_grownB grownBy_set)
set_option maxHeartbeats 800000
set_option maxRecDepth 100000
set_option linter.unusedVariables false

/-- What Adjacent answers. -/
def adjB (n : Int) (E : List (Int × Int)) (i j : Int) : Bool := okG n E && decide (0 ≤ i) && decide (i < n) && decide (0 ≤ j) && decide (j < n) && (joins f0 E i.toNat).testBit j.toNat
theorem bit_one (x j : Nat) (hx : x < 18446744073709551616) : bits .and .u64 ((x : Int) / 2 ^ j) 1 = if x.testBit j = true then 1 else 0 := by
  have e : ((x : Int) / 2 ^ j) = ((x / 2 ^ j : Nat) : Int) := by simp
  have hlt : x / 2 ^ j < 18446744073709551616 := Nat.lt_of_le_of_lt (Nat.div_le_self _ _) hx
  rw [e, show (1 : Int) = ((1 : Nat) : Int) from rfl, and_u _ _ hlt (by decide), Nat.and_one_is_mod]
  rw [Nat.testBit_eq_decide_div_mod_eq]
  by_cases h : x / 2 ^ j % 2 = 1
  · simp [h]
  · have : x / 2 ^ j % 2 = 0 := by omega
    simp [this]
theorem adj_any (n : Int) (E : List (Int × Int)) (i j : Int) (A : Option Addr) (c : Nat) (w : World) (hE : KE.C w A E.length E) (hl : E.length ≤ 1000000) :
    Calls Tryd.prog 27 #[.agg #[.int .i64 n, .slice A E.length c], .int .i64 i, .int .i64 j] w fun e w' => e = .returned (.bool (adjB n E i j)) ∧ Below w.heap.size w w' := by
  have HC := Aside0.mk hE
  have hread := read_any n E A c
  clear hE
  obtain ⟨r, hr⟩ : ∃ r, r = adjB n E i j := ⟨_, rfl⟩
  have HRR := Aside0.mk hr
  rw [← hr]
  clear hr
  by_cases ok : okG n E = true
  · obtain ⟨hn0, hn1, hbd⟩ := okG_bd ok
    rw [ok] at hread
    have HR := Aside0.mk hread
    have hr : r = (decide (0 ≤ i) && decide (i < n) && decide (0 ≤ j) && decide (j < n) && (joins f0 E i.toNat).testBit j.toNat) := by rw [HRR.out, adjB, ok, Bool.true_and]
    clear hread ok HRR
    generalize joins f0 E = f at *
    have HR1 := Aside0.mk hr
    clear hr
    by_cases q1 : 0 ≤ i
    · have d1 : decide (0 ≤ i) = true := by simpa using q1
      by_cases q2 : i < n
      · have d2 : decide (i < n) = true := by simpa using q2
        by_cases q3 : 0 ≤ j
        · have d3 : decide (0 ≤ j) = true := by simpa using q3
          by_cases q4 : j < n
          · have d4 : decide (j < n) = true := by simpa using q4
            obtain ⟨i, rfl⟩ := Int.eq_ofNat_of_zero_le q1
            obtain ⟨j, rfl⟩ := Int.eq_ofNat_of_zero_le q3
            have hi : i < 64 := by omega
            have hj : j < 64 := by omega
            have hr : r = (f i).testBit j := by rw [HR1.out, d1, d2, d3, d4]; simp
            have HR2 := Aside0.mk hr
            have hfi := hbd i hi
            have hbit := bit_one (f i) j hfi
            clear hr HR1
            have HBT := Aside0.mk hbit
            clear hbit
            obtain ⟨m, rfl⟩ := Int.eq_ofNat_of_zero_le hn0
            go_enter Tryd.func27, Tryd.ntmps27
            go_wp2_with (first
              | (go_at_call 47; go_must (refine (HR.out _ (Kd.C_below HC.out ((Below.refl _ _).alloc (Nat.le_refl _) _)) hl).mono ?_); rintro e w1 ⟨s, rfl, hs, HB1⟩; obtain rfl : s = f := hs rfl)
              | (with_reducible refine gate_ (.store 55 (.tmp 7) (.tmp 12)) rfl ?_; go_must (refine store_row rfl 55 (.tmp 7) (.tmp 12) rfl w1.heap.size 55 (setsV f0) (setsV s) (by simp [Act.eval]) (by simp [Act.eval]) (blk_at rfl) rfl (by kernel_rfl) (setsV_one s) ?_)
                 intro w2 hw2 hg2
                 have HBw : Below w.heap.size w w1 := below_then ((Below.refl _ _).alloc (Nat.le_refl _) _) (by simp) HB1
                 have HB2 : Below w.heap.size w w2 := (HBw.alloc HBw.size _).grown hg2 (by have := HBw.size; simp; omega) (fun q hq => by injection hq with hq; have := HBw.size; omega)
                 have HG2 := blk_grown (blk_alloc (blk_below (blk_new w (.cells #[.int .i64 m, .slice A E.length c] 25)) HB1) _) hg2 (fun e => by injection e with e; have := HB1.size; simp at this; omega)
                 have g0 : w2.cell? ⟨w.heap.size, 0, none⟩ = some (.int .i64 m) := by simpa using blk_cell HG2 0
                 have gi : w2.cell? ⟨w1.heap.size, i, none⟩ = some (.int .u64 (s i)) := by rw [blk_cell hw2, setsV_at s i hi]
                 clear hw2 hg2 HG2 HB1 HR HBw hs))
            go_ret
            refine ⟨?_, HB2⟩
            rw [HR2.out]
            show Ending.returned (Value.bool (bits .and .u64 ((s i : Int) / 2 ^ j) 1 == 1)) = _
            rw [HBT.out]
            cases (s i).testBit j <;> rfl
          · have d4 : decide (j < n) = false := by simpa using q4
            have hr : r = false := by rw [HR1.out, d1, d2, d3, d4]; simp
            have HR2 := Aside0.mk hr
            clear hr HR1
            go_enter Tryd.func27, Tryd.ntmps27
            go_wp2_with (first
              | (go_at_call 47; go_must (refine (HR.out _ (Kd.C_below HC.out ((Below.refl _ _).alloc (Nat.le_refl _) _)) hl).mono ?_); rintro e w1 ⟨s, rfl, hs, HB1⟩; obtain rfl : s = f := hs rfl)
              | (with_reducible refine gate_ (.store 55 (.tmp 7) (.tmp 12)) rfl ?_; go_must (refine store_row rfl 55 (.tmp 7) (.tmp 12) rfl w1.heap.size 55 (setsV f0) (setsV s) (by simp [Act.eval]) (by simp [Act.eval]) (blk_at rfl) rfl (by kernel_rfl) (setsV_one s) ?_)
                 intro w2 hw2 hg2
                 have HBw : Below w.heap.size w w1 := below_then ((Below.refl _ _).alloc (Nat.le_refl _) _) (by simp) HB1
                 have HB2 : Below w.heap.size w w2 := (HBw.alloc HBw.size _).grown hg2 (by have := HBw.size; simp; omega) (fun q hq => by injection hq with hq; have := HBw.size; omega)
                 have HG2 := blk_grown (blk_alloc (blk_below (blk_new w (.cells #[.int .i64 n, .slice A E.length c] 25)) HB1) _) hg2 (fun e => by injection e with e; have := HB1.size; simp at this; omega)
                 have g0 : w2.cell? ⟨w.heap.size, 0, none⟩ = some (.int .i64 n) := by simpa using blk_cell HG2 0
                 clear hw2 hg2 HG2 HB1 HR HBw hs))
            go_ret
            exact ⟨by rw [HR2.out]; rfl, HB2⟩
        · have d3 : decide (0 ≤ j) = false := by simpa using q3
          have hr : r = false := by rw [HR1.out, d1, d2, d3]; simp
          have HR2 := Aside0.mk hr
          clear hr HR1
          go_enter Tryd.func27, Tryd.ntmps27
          go_wp2_with (first
            | (go_at_call 47; go_must (refine (HR.out _ (Kd.C_below HC.out ((Below.refl _ _).alloc (Nat.le_refl _) _)) hl).mono ?_); rintro e w1 ⟨s, rfl, hs, HB1⟩; obtain rfl : s = f := hs rfl)
            | (with_reducible refine gate_ (.store 55 (.tmp 7) (.tmp 12)) rfl ?_; go_must (refine store_row rfl 55 (.tmp 7) (.tmp 12) rfl w1.heap.size 55 (setsV f0) (setsV s) (by simp [Act.eval]) (by simp [Act.eval]) (blk_at rfl) rfl (by kernel_rfl) (setsV_one s) ?_)
               intro w2 hw2 hg2
               have HBw : Below w.heap.size w w1 := below_then ((Below.refl _ _).alloc (Nat.le_refl _) _) (by simp) HB1
               have HB2 : Below w.heap.size w w2 := (HBw.alloc HBw.size _).grown hg2 (by have := HBw.size; simp; omega) (fun q hq => by injection hq with hq; have := HBw.size; omega)
               have HG2 := blk_grown (blk_alloc (blk_below (blk_new w (.cells #[.int .i64 n, .slice A E.length c] 25)) HB1) _) hg2 (fun e => by injection e with e; have := HB1.size; simp at this; omega)
               have g0 : w2.cell? ⟨w.heap.size, 0, none⟩ = some (.int .i64 n) := by simpa using blk_cell HG2 0
               clear hw2 hg2 HG2 HB1 HR HBw hs))
          go_ret
          exact ⟨by rw [HR2.out]; rfl, HB2⟩
      · have d2 : decide (i < n) = false := by simpa using q2
        have hr : r = false := by rw [HR1.out, d1, d2]; simp
        have HR2 := Aside0.mk hr
        clear hr HR1
        go_enter Tryd.func27, Tryd.ntmps27
        go_wp2_with (first
          | (go_at_call 47; go_must (refine (HR.out _ (Kd.C_below HC.out ((Below.refl _ _).alloc (Nat.le_refl _) _)) hl).mono ?_); rintro e w1 ⟨s, rfl, hs, HB1⟩; obtain rfl : s = f := hs rfl)
          | (with_reducible refine gate_ (.store 55 (.tmp 7) (.tmp 12)) rfl ?_; go_must (refine store_row rfl 55 (.tmp 7) (.tmp 12) rfl w1.heap.size 55 (setsV f0) (setsV s) (by simp [Act.eval]) (by simp [Act.eval]) (blk_at rfl) rfl (by kernel_rfl) (setsV_one s) ?_)
             intro w2 hw2 hg2
             have HBw : Below w.heap.size w w1 := below_then ((Below.refl _ _).alloc (Nat.le_refl _) _) (by simp) HB1
             have HB2 : Below w.heap.size w w2 := (HBw.alloc HBw.size _).grown hg2 (by have := HBw.size; simp; omega) (fun q hq => by injection hq with hq; have := HBw.size; omega)
             have HG2 := blk_grown (blk_alloc (blk_below (blk_new w (.cells #[.int .i64 n, .slice A E.length c] 25)) HB1) _) hg2 (fun e => by injection e with e; have := HB1.size; simp at this; omega)
             have g0 : w2.cell? ⟨w.heap.size, 0, none⟩ = some (.int .i64 n) := by simpa using blk_cell HG2 0
             clear hw2 hg2 HG2 HB1 HR HBw hs))
        go_ret
        exact ⟨by rw [HR2.out]; rfl, HB2⟩
    · have d1 : decide (0 ≤ i) = false := by simpa using q1
      have hr : r = false := by rw [HR1.out, d1]; simp
      have HR2 := Aside0.mk hr
      clear hr HR1
      go_enter Tryd.func27, Tryd.ntmps27
      go_wp2_with (first
        | (go_at_call 47; go_must (refine (HR.out _ (Kd.C_below HC.out ((Below.refl _ _).alloc (Nat.le_refl _) _)) hl).mono ?_); rintro e w1 ⟨s, rfl, hs, HB1⟩; obtain rfl : s = f := hs rfl)
        | (with_reducible refine gate_ (.store 55 (.tmp 7) (.tmp 12)) rfl ?_; go_must (refine store_row rfl 55 (.tmp 7) (.tmp 12) rfl w1.heap.size 55 (setsV f0) (setsV s) (by simp [Act.eval]) (by simp [Act.eval]) (blk_at rfl) rfl (by kernel_rfl) (setsV_one s) ?_)
           intro w2 hw2 hg2
           have HBw : Below w.heap.size w w1 := below_then ((Below.refl _ _).alloc (Nat.le_refl _) _) (by simp) HB1
           have HB2 : Below w.heap.size w w2 := (HBw.alloc HBw.size _).grown hg2 (by have := HBw.size; simp; omega) (fun q hq => by injection hq with hq; have := HBw.size; omega)
           have HG2 := blk_grown (blk_alloc (blk_below (blk_new w (.cells #[.int .i64 n, .slice A E.length c] 25)) HB1) _) hg2 (fun e => by injection e with e; have := HB1.size; simp at this; omega)
           have g0 : w2.cell? ⟨w.heap.size, 0, none⟩ = some (.int .i64 n) := by simpa using blk_cell HG2 0
           clear hw2 hg2 HG2 HB1 HR HBw hs))
      go_ret
      exact ⟨by rw [HR2.out]; rfl, HB2⟩
  · have ok' : okG n E = false := by simpa using ok
    rw [ok'] at hread
    have HR := Aside0.mk hread
    have hr : r = false := by rw [HRR.out, adjB, ok']; simp
    have HR2 := Aside0.mk hr
    clear hr HRR hread ok ok'
    go_enter Tryd.func27, Tryd.ntmps27
    go_wp2_with (first
      | (go_at_call 47; go_must (refine (HR.out _ (Kd.C_below HC.out ((Below.refl _ _).alloc (Nat.le_refl _) _)) hl).mono ?_); rintro e w1 ⟨s, rfl, hs, HB1⟩)
      | (with_reducible refine gate_ (.store 55 (.tmp 7) (.tmp 12)) rfl ?_; go_must (refine store_row rfl 55 (.tmp 7) (.tmp 12) rfl w1.heap.size 55 (setsV f0) (setsV s) (by simp [Act.eval]) (by simp [Act.eval]) (blk_at rfl) rfl (by kernel_rfl) (setsV_one s) ?_)
         intro w2 hw2 hg2
         have HBw : Below w.heap.size w w1 := below_then ((Below.refl _ _).alloc (Nat.le_refl _) _) (by simp) HB1
         have HB2 : Below w.heap.size w w2 := (HBw.alloc HBw.size _).grown hg2 (by have := HBw.size; simp; omega) (fun q hq => by injection hq with hq; have := HBw.size; omega)
         have HG2 := blk_grown (blk_alloc (blk_below (blk_new w (.cells #[.int .i64 n, .slice A E.length c] 25)) HB1) _) hg2 (fun e => by injection e with e; have := HB1.size; simp at this; omega)
         have g0 : w2.cell? ⟨w.heap.size, 0, none⟩ = some (.int .i64 n) := by simpa using blk_cell HG2 0
         clear hw2 hg2 HG2 HB1 HR HBw hs))
    go_ret
    exact ⟨by rw [HR2.out]; rfl, HB2⟩
end Go.Proofs.YtkkfoonaobehaaaDoor.Adj
