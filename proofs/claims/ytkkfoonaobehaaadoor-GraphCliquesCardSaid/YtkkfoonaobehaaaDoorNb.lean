import Derived.Test.YtkkfoonaobehaaaDoorRAdj
namespace Go.Proofs.YtkkfoonaobehaaaDoor.Nb
open Go.RowKit Go.Proofs.YtkkfoonaobehaaaDoorW.PrintWords Go.Proofs.YtkkfoonaobehaaaDoor.Bits Go.Proofs.YtkkfoonaobehaaaDoor.Low Go.Proofs.YtkkfoonaobehaaaDoor.Sets Go.Proofs.YtkkfoonaobehaaaDoor.Read Go.Proofs.YtkkfoonaobehaaaDoor.Ext Go.Proofs.YtkkfoonaobehaaaDoor.Keep Go.Proofs.YtkkfoonaobehaaaDoor.Adj Go.Proofs.YtkkfoonaobehaaaDoor.RAdj
open Go.Proofs.YtkkfoonaobehaaaDoor.Kit (store_row R_grownB grownBy_set)
set_option maxHeartbeats 800000
set_option maxRecDepth 100000
set_option linter.unusedVariables false

def nbTo (n : Int) (E : List (Int × Int)) (i : Int) (k : Nat) : List Int := List.map Int.ofNat (List.filter (fun j : Nat => adjB n E i j) (List.range k))
theorem nbTo_step (n : Int) (E : List (Int × Int)) (i : Int) (k : Nat) : nbTo n E i (k + 1) = nbTo n E i k ++ if adjB n E i k = true then [(k : Int)] else [] := by
  rw [nbTo, List.range_succ, List.filter_append, List.map_append, ← nbTo]
  congr 1
  by_cases h : adjB n E i k = true <;> simp [h]
theorem nbTo_len (n : Int) (E : List (Int × Int)) (i : Int) (k : Nat) : (nbTo n E i k).length ≤ k := by
  have := List.length_filter_le (fun j : Nat => adjB n E i j) (List.range k)
  simpa [nbTo] using this
theorem rnb_any (n : Nat) (E : List (Int × Int)) (i : Int) (A : Option Addr) (c : Nat) (w : World) (hn : n ≤ 64) (hE : KE.C w A E.length E) (hl : E.length ≤ 1000000) :
    Calls Tryd.prog 39 #[.agg #[.int .i64 n, .slice A E.length c], .int .i64 i] w fun e w' => ∃ v, e = .returned v ∧ Kd.R KI 3 w' w.heap.size (fun _ => True) v (nbTo n E i n) ∧ Below w.heap.size w w' := by
  have HC := Aside0.mk hE
  have hadj := fun (j : Int) (w : World) (h : KE.C w A E.length E) => radj_any n E i j A c w h hl
  have HAd := Aside0.mk hadj
  clear hE hadj
  go_enter Tryd.func39, Tryd.ntmps39
  go_wp2_with fail
  go_loopw [5, 6] (fun o ii wr => ∃ k : Nat, ii = .int .i64 k ∧ k ≤ n ∧ wr.heap[w.heap.size]? = some (.cells #[.int .i64 n, .slice A E.length c] 25 (0, 0)) ∧ Kd.R KI 3 wr (w.heap.size + 1) (fun _ => True) o (nbTo n E i k) ∧ Below w.heap.size w wr ∧ w.heap.size + 1 ≤ wr.heap.size) (fun _ ii _ => n - (intOf ii).toNat)
  case atStart => exact ⟨0, rfl, by omega, blk_at rfl, by simpa [nbTo] using Kd.R_nil KI 3 _ (w.heap.size + 1) _, (Below.refl _ _).alloc (Nat.le_refl _) _, by simp⟩
  case round =>
    obtain ⟨k, rfl, hk, hG, hO, hB, hsz⟩ := hrel
    have g0 : wr.cell? ⟨w.heap.size, 0, none⟩ = some (.int .i64 n) := by simpa using blk_cell hG 0
    have g1 : wr.cell? ⟨w.heap.size, 1, none⟩ = some (.slice A E.length c) := by simpa using blk_cell hG 1
    have HG := Aside0.mk hG
    have HSZ := Aside0.mk hsz
    clear hG hsz
    by_cases hlt : k < n
    · have HNS := Aside0.mk (nbTo_step n E i k)
      have HNL := Aside0.mk (nbTo_len n E i k)
      have hca := HAd.out (k : Int)
      generalize nbTo n E i k = xs at *
      cases hab : adjB n E i k with
      | false =>
        rw [hab] at hca
        have hns := HNS.out
        rw [hab, if_neg (by simp), List.append_nil] at hns
        have HNS2 := Aside0.mk hns
        have HCA := Aside0.mk hca
        clear hca hns HNS hab
        go_wp2_with (go_at_call 37; go_must (refine (HCA.out _ (Kd.C_below HC.out hB)).mono ?_); rintro e w1 ⟨rfl, HB1⟩)
        exact ⟨⟨k + 1, by go_num, by omega, blk_below HG.out HB1, by rw [HNS2.out]; exact Kd.R_below hO HB1, below_then hB hB.size HB1, by have := HB1.size; have := HSZ.out; omega⟩, by simp [intOf]; omega⟩
      | true =>
        rw [hab] at hca
        have hns := HNS.out
        rw [hab, if_pos rfl] at hns
        have HNS2 := Aside0.mk hns
        have HCA := Aside0.mk hca
        clear hca hns HNS hab
        go_wp2_with (first
          | (go_at_call 37; go_must (refine (HCA.out _ (Kd.C_below HC.out hB)).mono ?_); rintro e w1 ⟨rfl, HB1⟩
             have HO1 := Kd.R_below hO HB1
             have HG1 := Aside0.mk (blk_below HG.out HB1)
             have HB2 := below_then hB hB.size HB1
             have hsz1 : w.heap.size + 1 ≤ w1.heap.size := by have := HB1.size; have := HSZ.out; omega)
          | (at_builtin; go_must (refine Kd.R_append KI (w.heap.size + 1) (by rfl) (.tmp 17) (.tmp 19) 40 3 (.int .i64 0) 8 (by rfl) Tryd.underlying40 i3 rfl (by decide) (by decide) _ xs (k : Int) [.int .i64 k] (fun _ => True) (fun _ => False) (by rfl) (by rfl) rfl (fun _ h => h.elim) (fun _ _ => trivial) HO1 (Below.refl _ _) hsz1 (by have := HNL.out; omega) ?_); intro v1 w3 HO3 HB3 hgr _))
        obtain ⟨inn, how⟩ := Kd.R_own HO1
        exact ⟨⟨k + 1, by go_num, by omega, blk_grown HG1.out hgr (fun e => by have := own_base how _ e.symm; omega), by rw [HNS2.out]; exact HO3, HB2.grown hgr HB2.size (fun q hq => by have := own_base how q hq; omega), by have := hgr.size; omega⟩, by simp [intOf]; omega⟩
    · obtain rfl : k = n := by omega
      go_wp2_with fail
      go_ret
      exact ⟨_, rfl, Kd.R_lower hO (Nat.le_succ _), hB⟩
def nbL (n : Int) (E : List (Int × Int)) (i : Int) : List Int := if okG n E = true ∧ 0 ≤ i ∧ i < n then memI (joins f0 E i.toNat) else []
theorem nb_any (n : Int) (E : List (Int × Int)) (i : Int) (A : Option Addr) (c : Nat) (w : World) (hT : T w) (hE : KE.C w A E.length E) (hl : E.length ≤ 1000000) :
    Calls Tryd.prog 38 #[.agg #[.int .i64 n, .slice A E.length c], .int .i64 i] w fun e w' => ∃ v, e = .returned v ∧ Kd.R KI 3 w' w.heap.size (fun _ => True) v (nbL n E i) ∧ Below w.heap.size w w' := by
  have HC := Aside0.mk hE
  have HT := Aside0.mk hT
  have hread := read_any n E A c
  clear hE hT
  by_cases ok : okG n E = true
  · obtain ⟨hn0, hn1, hbd⟩ := okG_bd ok
    rw [ok] at hread
    have HR := Aside0.mk hread
    have hr1 : nbL n E i = if 0 ≤ i ∧ i < n then memI (joins f0 E i.toNat) else [] := by simp [nbL, ok]
    clear hread ok
    generalize joins f0 E = f at *
    have HR1 := Aside0.mk hr1
    clear hr1
    by_cases q1 : 0 ≤ i
    · have d1 : decide (i < 0) = false := by simp; omega
      by_cases q2 : i < n
      · have d2 : decide (n ≤ i) = false := by simp; omega
        have hr : nbL n E i = memI (f i.toNat) := by rw [HR1.out, if_pos ⟨q1, q2⟩]
        rw [hr]
        clear hr HR1
        obtain ⟨i, rfl⟩ := Int.eq_ofNat_of_zero_le q1
        have hi : i < 64 := by omega
        rw [Int.toNat_natCast]
        have hfi := hbd i hi
        obtain ⟨m, rfl⟩ := Int.eq_ofNat_of_zero_le hn0
        have d2n : decide (m ≤ i) = false := by simp; omega
        go_enter Tryd.func38, Tryd.ntmps38
        go_wp2_with (first
          | (go_at_call 47; go_must (refine (HR.out _ (Kd.C_below HC.out ((Below.refl _ _).alloc (Nat.le_refl _) _)) hl).mono ?_); rintro e w1 ⟨s, rfl, hs, HB1⟩; obtain rfl : s = f := hs rfl)
          | (with_reducible refine gate_ (.store 55 (.tmp 5) (.tmp 10)) rfl ?_; go_must (refine store_row rfl 55 (.tmp 5) (.tmp 10) rfl w1.heap.size 55 (setsV f0) (setsV s) (by simp [Act.eval]) (by simp [Act.eval]) (blk_at rfl) rfl (by kernel_rfl) (setsV_one s) ?_)
             intro w2 hw2 hg2
             have HBw : Below w.heap.size w w1 := below_then ((Below.refl _ _).alloc (Nat.le_refl _) _) (by simp) HB1
             have HB2 : Below w.heap.size w w2 := (HBw.alloc HBw.size _).grown hg2 (by have := HBw.size; simp; omega) (fun q hq => by injection hq with hq; have := HBw.size; omega)
             have HG2 := blk_grown (blk_alloc (blk_below (blk_new w (.cells #[.int .i64 m, .slice A E.length c] 25)) HB1) _) hg2 (fun e => by injection e with e; have := HB1.size; simp at this; omega)
             have g0 : w2.cell? ⟨w.heap.size, 0, none⟩ = some (.int .i64 m) := by simpa using blk_cell HG2 0
             have gi : w2.cell? ⟨w1.heap.size, i, none⟩ = some (.int .u64 (s i)) := by rw [blk_cell hw2, setsV_at s i hi]
             clear hw2 hg2 HG2 HB1 HR HBw hs)
          | (go_at_call 50; go_must (refine (members_any (s i) hfi _ (T_below HT.out HB2)).mono ?_); rintro e w3 ⟨u, rfl, HU, HB3⟩))
        go_ret
        exact ⟨_, rfl, Kd.R_lower HU HB2.size, below_then HB2 HB2.size HB3⟩
      · have d2 : decide (n ≤ i) = true := by simp; omega
        have hr : nbL n E i = [] := by rw [HR1.out, if_neg (fun h => q2 h.2)]
        rw [hr]
        clear hr HR1
        go_enter Tryd.func38, Tryd.ntmps38
        go_wp2_with (first
          | (go_at_call 47; go_must (refine (HR.out _ (Kd.C_below HC.out ((Below.refl _ _).alloc (Nat.le_refl _) _)) hl).mono ?_); rintro e w1 ⟨s, rfl, hs, HB1⟩; obtain rfl : s = f := hs rfl)
          | (with_reducible refine gate_ (.store 55 (.tmp 5) (.tmp 10)) rfl ?_; go_must (refine store_row rfl 55 (.tmp 5) (.tmp 10) rfl w1.heap.size 55 (setsV f0) (setsV s) (by simp [Act.eval]) (by simp [Act.eval]) (blk_at rfl) rfl (by kernel_rfl) (setsV_one s) ?_)
             intro w2 hw2 hg2
             have HBw : Below w.heap.size w w1 := below_then ((Below.refl _ _).alloc (Nat.le_refl _) _) (by simp) HB1
             have HB2 : Below w.heap.size w w2 := (HBw.alloc HBw.size _).grown hg2 (by have := HBw.size; simp; omega) (fun q hq => by injection hq with hq; have := HBw.size; omega)
             have HG2 := blk_grown (blk_alloc (blk_below (blk_new w (.cells #[.int .i64 n, .slice A E.length c] 25)) HB1) _) hg2 (fun e => by injection e with e; have := HB1.size; simp at this; omega)
             have g0 : w2.cell? ⟨w.heap.size, 0, none⟩ = some (.int .i64 n) := by simpa using blk_cell HG2 0
             clear hw2 hg2 HG2 HB1 HR HBw hs))
        go_ret
        exact ⟨_, rfl, Kd.R_nil _ _ _ _ _, HB2⟩
    · have d1 : decide (i < 0) = true := by simp; omega
      have hr : nbL n E i = [] := by rw [HR1.out, if_neg (fun h => q1 h.1)]
      rw [hr]
      clear hr HR1
      go_enter Tryd.func38, Tryd.ntmps38
      go_wp2_with (first
        | (go_at_call 47; go_must (refine (HR.out _ (Kd.C_below HC.out ((Below.refl _ _).alloc (Nat.le_refl _) _)) hl).mono ?_); rintro e w1 ⟨s, rfl, hs, HB1⟩; obtain rfl : s = f := hs rfl)
        | (with_reducible refine gate_ (.store 55 (.tmp 5) (.tmp 10)) rfl ?_; go_must (refine store_row rfl 55 (.tmp 5) (.tmp 10) rfl w1.heap.size 55 (setsV f0) (setsV s) (by simp [Act.eval]) (by simp [Act.eval]) (blk_at rfl) rfl (by kernel_rfl) (setsV_one s) ?_)
           intro w2 hw2 hg2
           have HBw : Below w.heap.size w w1 := below_then ((Below.refl _ _).alloc (Nat.le_refl _) _) (by simp) HB1
           have HB2 : Below w.heap.size w w2 := (HBw.alloc HBw.size _).grown hg2 (by have := HBw.size; simp; omega) (fun q hq => by injection hq with hq; have := HBw.size; omega)
           have HG2 := blk_grown (blk_alloc (blk_below (blk_new w (.cells #[.int .i64 n, .slice A E.length c] 25)) HB1) _) hg2 (fun e => by injection e with e; have := HB1.size; simp at this; omega)
           have g0 : w2.cell? ⟨w.heap.size, 0, none⟩ = some (.int .i64 n) := by simpa using blk_cell HG2 0
           clear hw2 hg2 HG2 HB1 HR HBw hs))
      go_ret
      exact ⟨_, rfl, Kd.R_nil _ _ _ _ _, HB2⟩
  · have ok' : okG n E = false := by simpa using ok
    rw [ok'] at hread
    have HR := Aside0.mk hread
    have hr : nbL n E i = [] := by simp [nbL, ok']
    rw [hr]
    clear hr hread ok ok'
    go_enter Tryd.func38, Tryd.ntmps38
    go_wp2_with (first
      | (go_at_call 47; go_must (refine (HR.out _ (Kd.C_below HC.out ((Below.refl _ _).alloc (Nat.le_refl _) _)) hl).mono ?_); rintro e w1 ⟨s, rfl, hs, HB1⟩)
      | (with_reducible refine gate_ (.store 55 (.tmp 5) (.tmp 10)) rfl ?_; go_must (refine store_row rfl 55 (.tmp 5) (.tmp 10) rfl w1.heap.size 55 (setsV f0) (setsV s) (by simp [Act.eval]) (by simp [Act.eval]) (blk_at rfl) rfl (by kernel_rfl) (setsV_one s) ?_)
         intro w2 hw2 hg2
         have HBw : Below w.heap.size w w1 := below_then ((Below.refl _ _).alloc (Nat.le_refl _) _) (by simp) HB1
         have HB2 : Below w.heap.size w w2 := (HBw.alloc HBw.size _).grown hg2 (by have := HBw.size; simp; omega) (fun q hq => by injection hq with hq; have := HBw.size; omega)
         have HG2 := blk_grown (blk_alloc (blk_below (blk_new w (.cells #[.int .i64 n, .slice A E.length c] 25)) HB1) _) hg2 (fun e => by injection e with e; have := HB1.size; simp at this; omega)
         have g0 : w2.cell? ⟨w.heap.size, 0, none⟩ = some (.int .i64 n) := by simpa using blk_cell HG2 0
         clear hw2 hg2 HG2 HB1 HR HBw hs))
    go_ret
    exact ⟨_, rfl, Kd.R_nil _ _ _ _ _, HB2⟩
theorem nb_eq (n : Nat) (E : List (Int × Int)) (i : Int) (hn : n ≤ 64) : nbTo n E i n = nbL n E i := by
  by_cases h : okG n E = true ∧ 0 ≤ i ∧ i < n
  · rw [nbL, if_pos h]
    obtain ⟨ok, h0, h1⟩ := h
    obtain ⟨i, rfl⟩ := Int.eq_ofNat_of_zero_le h0
    have hb := Go.Proofs.YtkkfoonaobehaaaDoor.Ref.joins_bits n E f0 (okG_in n E ok) (by intro i j _; simp [f0]) i
    rw [nbTo, memI, mem, Int.toNat_natCast, Go.Proofs.YtkkfoonaobehaaaDoor.Ref.filter_upto _ n hn hb]
    congr 1
    apply List.filter_congr
    intro j hj
    have hjn := List.mem_range.1 hj
    have z1 : decide ((0 : Int) ≤ (i : Int)) = true := by simp
    have z2 : decide ((i : Int) < (n : Int)) = true := decide_eq_true h1
    have z3 : decide ((0 : Int) ≤ (j : Int)) = true := by simp
    have z4 : decide ((j : Int) < (n : Int)) = true := by simp; omega
    rw [adjB, ok, z1, z2, z3, z4]
    simp
  · rw [nbL, if_neg h, nbTo]
    have : List.filter (fun j : Nat => adjB n E i j) (List.range n) = [] := by
      rw [List.filter_eq_nil_iff]
      intro j _ hj
      apply h
      simp only [adjB, Bool.and_eq_true, decide_eq_true_eq] at hj
      exact ⟨hj.1.1.1.1.1, hj.1.1.1.1.2, hj.1.1.1.2⟩
    rw [this]
    rfl
end Go.Proofs.YtkkfoonaobehaaaDoor.Nb
