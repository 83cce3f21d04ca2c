import Derived.Test.YtkkfoonaobehaaaDoorRMax
import Derived.Test.YtkkfoonaobehaaaDoorRFn
import Derived.Test.YtkkfoonaobehaaaDoorGExt
namespace Go.Proofs.YtkkfoonaobehaaaDoor.GCli
open Go.RowKit Go.Proofs.YtkkfoonaobehaaaDoorW.PrintWords Go.Proofs.YtkkfoonaobehaaaDoor.Bits Go.Proofs.YtkkfoonaobehaaaDoor.Low Go.Proofs.YtkkfoonaobehaaaDoor.Sets Go.Proofs.YtkkfoonaobehaaaDoor.Read Go.Proofs.YtkkfoonaobehaaaDoor.Search Go.Proofs.YtkkfoonaobehaaaDoor.Earl Go.Proofs.YtkkfoonaobehaaaDoor.Ext Go.Proofs.YtkkfoonaobehaaaDoor.ExtW Go.Proofs.YtkkfoonaobehaaaDoor.Chord Go.Proofs.YtkkfoonaobehaaaDoor.Sort Go.Proofs.YtkkfoonaobehaaaDoor.Cl Go.Proofs.YtkkfoonaobehaaaDoor.Keep Go.Proofs.YtkkfoonaobehaaaDoor.Ref Go.Proofs.YtkkfoonaobehaaaDoor.Val Go.Proofs.YtkkfoonaobehaaaDoor.Rd Go.Proofs.YtkkfoonaobehaaaDoor.RAdj Go.Proofs.YtkkfoonaobehaaaDoor.Aw Go.Proofs.YtkkfoonaobehaaaDoor.Made Go.Proofs.YtkkfoonaobehaaaDoor.GrP Go.Proofs.YtkkfoonaobehaaaDoor.Tri Go.Proofs.YtkkfoonaobehaaaDoor.ClqE Go.Proofs.YtkkfoonaobehaaaDoor.RMax Go.Proofs.YtkkfoonaobehaaaDoor.GRaw Go.Proofs.YtkkfoonaobehaaaDoor.RFn
set_option maxHeartbeats 1600000
set_option maxRecDepth 100000
set_option linter.unusedVariables false
set_option linter.unusedSimpArgs false
theorem clq_sh (m : Int) (E : List (Int × Int)) : (clqL m E).length ≤ m.toNat ∧ ∀ i, ((clqL m E).getD i []).length ≤ 1000000 := by
  have key : (clqL m E).length ≤ m.toNat ∧ Short (clqL m E) := by
    unfold clqL
    split
    · split
      · rename_i bs _
        refine ⟨by rw [(ChC.sortL_perm _).length_eq]; exact rawTo_len _ _, fun l hl => rawTo_short _ _ l ((ChC.sortL_perm _).mem_iff.1 hl)⟩
      · exact ⟨by simp, fun l hl => by cases hl⟩
    · exact ⟨by simp, fun l hl => by cases hl⟩
  refine ⟨key.1, fun i => ?_⟩
  by_cases h : i < (clqL m E).length
  · exact key.2 _ (getD_mem h)
  · simp [List.getD_eq_getElem?_getD, List.getElem?_eq_none (show (clqL m E).length ≤ i by omega)]
theorem rcliq_any (m : Nat) (E : List (Int × Int)) (A : Option Addr) (c : Nat) (w : World) (hE : KE.C w A E.length E) (hl : E.length ≤ 1000000) (ok : okG m E = true) :
    Calls Tryd.prog 19 #[.agg #[.int .i64 m, .slice A E.length c]] w fun e w' => ∃ v, e = .returned (.tuple #[v, .int .i64 (clqC m E)]) ∧ KS.R 40 w' w.heap.size (fun _ => True) v (clqL m E) ∧ Below w.heap.size w w' := by
  have HC := Aside0.mk hE
  have hm : m ≤ 64 := by have := (okG_bd ok).2.1; omega
  have hgr := okG_gr ok
  have hrv := fun (w : World) (h : KE.C w A E.length E) => rvalid_any m E A c w h hl
  rw [ok] at hrv
  have hrr := fun (w : World) (h : KE.C w A E.length E) => rread_any m E A c w hm h hl (okG_in m E ok)
  have hpa := fun (g cc : Nat) (w : World) (h : Ref.Mat w g m (joins f0 E)) => tri_any (joins f0 E) m g cc w hm h
  have hcl : chordB m E = triT (joins f0 E) m m 0 := by rw [ChE.tri_eq hm hgr]; simp [chordB, ok]
  rw [← hcl] at hpa
  have hcc : clqC m E = if chordB m E then 0 else 11 := by simp [clqC, ok, chordB]
  have HRV := Aside0.mk hrv
  have HRR := Aside0.mk hrr
  cases hb : chordB m E with
  | false =>
    have hL : clqL m E = [] := by
      rw [chordB, ok, Bool.true_and] at hb
      rw [clqL, if_pos ok]
      cases e : earl (joins f0 E) (searchL (joins f0 E) (m : Int).toNat) 0 []
      · rfl
      · rw [e] at hb; cases hb
    rw [hcc, hb, hL]
    rw [hb] at hpa
    have HPA := Aside0.mk hpa
    clear hrv hrr hpa hE hcl hcc hgr hb hL
    go_enter Tryd.func19, Tryd.ntmps19
    have HS0 := Aside0.mk (GS.start m A E.length c w)
    go_wp2_with (first
      | (go_at_call 35; go_must (refine (HRV.out _ (Kd.C_below HC.out HS0.out.1)).mono ?_); rintro e w1 ⟨rfl, HB1⟩
         have HS1 := Aside0.mk (HS0.out.call HB1)
         have g0 := HS1.out.c0
         have g1 := HS1.out.c1
         clear HB1)
      | (go_at_call 46; go_must (refine (HRR.out _ (Kd.C_below HC.out HS1.out.1)).mono ?_); rintro e w2 ⟨g, rfl, hgl, HM, HB2⟩
         have HS2 := Aside0.mk (HS1.out.call HB2)
         clear g0 g1 HB2)
      | (go_at_call 53; go_must (refine (HPA.out _ _ _ HM).mono ?_); rintro e w3 ⟨rfl, HB3⟩))
    go_ret2
    exact ⟨_, by rfl, Kd.R_nil _ _ _ _ _, (HS2.out.call HB3).1⟩
  | true =>
    have hmx := fun (g cc : Nat) (w : World) (h : Ref.Mat w g m (joins f0 E)) => maxi_any (joins f0 E) m g cc w hm hgr (can_of_chord hm ok hb) h
    rw [clq_eq hm ok hb] at hmx
    rw [hcc, hb]
    rw [hb] at hpa
    have HPA := Aside0.mk hpa
    have HMX := Aside0.mk hmx
    clear hrv hrr hpa hE hcl hcc hgr hb hmx
    go_enter Tryd.func19, Tryd.ntmps19
    have HS0 := Aside0.mk (GS.start m A E.length c w)
    go_wp2_with (first
      | (go_at_call 35; go_must (refine (HRV.out _ (Kd.C_below HC.out HS0.out.1)).mono ?_); rintro e w1 ⟨rfl, HB1⟩
         have HS1 := Aside0.mk (HS0.out.call HB1)
         have g0 := HS1.out.c0
         have g1 := HS1.out.c1
         clear HB1)
      | (go_at_call 46; go_must (refine (HRR.out _ (Kd.C_below HC.out HS1.out.1)).mono ?_); rintro e w2 ⟨g, rfl, hgl, HM, HB2⟩
         have HS2 := Aside0.mk (HS1.out.call HB2)
         have HM := Aside0.mk HM
         clear g0 g1 HB2)
      | (go_at_call 53; go_must (refine (HPA.out _ _ _ HM.out).mono ?_); rintro e w3 ⟨rfl, HB3⟩
         have HS3 := Aside0.mk (HS2.out.call HB3)
         have HM3 := Aside0.mk (Mat_below HM.out HB3)
         clear HB3)
      | (go_at_call 54; go_must (refine (HMX.out _ _ _ HM3.out).mono ?_); rintro e w4 ⟨v, rfl, HO, HB4⟩))
    go_ret2
    exact ⟨_, by rfl, Kd.R_lower HO HS3.out.1.size, (HS3.out.call HB4).1⟩
theorem gcli_any (n : Int) (E : List (Int × Int)) (A : Option Addr) (c : Nat) (b : Bool) (w : World) (hT : T w) (hE : KE.C w A E.length E) :
    Calls Tryd.prog 4 #[.int .i64 n, .slice A E.length c, .bool b] w fun e w' => e = .returned (.bool true) ∧ Below w.heap.size w w' := by
  have HT := Aside0.mk hT
  have HC := Aside0.mk hE
  clear hT hE
  by_cases h40 : 40 < E.length
  · have d1 : decide ((40 : Int) < (E.length : Int)) = true := by simp; omega
    go_enter Tryd.func4, Tryd.ntmps4
    go_wp2_with (first
      | (go_at_call 16; go_must (refine (made_big n E A c w h40).mono ?_); rintro e w1 ⟨rfl, HB1⟩)
      | (go_at_call 12; go_must (refine (awake_any _ (T_below HT.out (HB1.alloc HB1.size _))).mono ?_); rintro e w2 ⟨rfl, HB2⟩))
    go_ret
    exact ⟨by rfl, below_then (HB1.alloc HB1.size _) (HB1.alloc HB1.size (.cells #[.int .i64 0, .slice none 0 0] 25)).size HB2⟩
  have d40 : decide ((40 : Int) < (E.length : Int)) = false := by simp; omega
  have hmade := fun w1 h1 => made_any n E A c w1 h1 (by omega)
  have hm0 := Int.emod_nonneg n (show (9 : Int) ≠ 0 by decide)
  have hm1 := Int.emod_lt_of_pos n (show (0 : Int) < 9 by decide)
  have hok := mdG_ok n E
  have hGl : (mdG n E).length ≤ 1000000 := Go.Proofs.YtkkfoonaobehaaaDoor.GMake.mkE_len _ _
  generalize mdG n E = G at *
  generalize n % 9 = m at *
  obtain ⟨m, rfl⟩ := Int.eq_ofNat_of_zero_le hm0
  have HMD := Aside0.mk hmade
  clear hmade hm0
  cases b with
  | false =>
    obtain ⟨s1, s2⟩ := clq_sh m G
    rw [Int.toNat_natCast] at s1
    have hcl := fun A1 k1 w1 h1 h2 => cliq_any m G A1 k1 w1 h1 h2 hGl (by omega)
    have hrc := fun A1 k1 w1 h2 => rcliq_any m G A1 k1 w1 h2 hGl hok
    generalize clqL m G = C at *
    generalize clqC m G = z at *
    have db : (z == z) = true := by simp
    have hCl : C.length ≤ 1000000 := by omega
    have HCL := Aside0.mk hcl
    have HRC := Aside0.mk hrc
    have HCS := Aside0.mk s2
    clear hcl hrc s2 hok h40
    go_enter Tryd.func4, Tryd.ntmps4
    go_wp2_with (first
      | (go_at_call 16; go_must (refine (HMD.out w HC.out).mono ?_); rintro e w1 ⟨v1, rfl, HO1, HB1⟩; obtain ⟨A1, k1, rfl, hc1, hC1⟩ := Kd.R_reads HO1
         have HC1 := Aside0.mk hC1
         have HBw1 : Aside0 (Below w.heap.size w w1) := ⟨HB1⟩
         have HS1 := Aside0.mk (GS.start m A1 G.length k1 w1)
         clear hC1 HO1 HB1)
      | (go_at_call 18; go_must (refine (HCL.out _ _ _ (T_below HT.out (below_then HBw1.out HBw1.out.size HS1.out.1)) (Kd.C_below HC1.out HS1.out.1)).mono ?_); rintro e w2 ⟨v2, rfl, HO2, HB2⟩; obtain ⟨A2, k2, rfl, hc2, hC2⟩ := Kd.R_reads HO2
         have HC2 := Aside0.mk hC2
         have HS2 := Aside0.mk (HS1.out.call HB2)
         clear hC2 HO2 HB2
         have g0 := HS2.out.c0
         have g1 := HS2.out.c1)
      | (go_at_call 19; go_must (refine (HRC.out _ _ _ (Kd.C_below HC1.out HS2.out.1)).mono ?_); rintro e w3 ⟨v3, rfl, HO3, HB3⟩; obtain ⟨A3, k3, rfl, hc3, hC3⟩ := Kd.R_reads HO3
         have HC3 := Aside0.mk hC3
         have HC23 : Aside0 (KS.C w3 A2 C.length C) := ⟨Kd.C_below HC2.out HB3⟩
         have HS3 := Aside0.mk (HS2.out.call HB3)
         clear hC3 HO3 HB3 g0 g1)
      | (go_at_call 20; go_must (refine (lists_any C C A2 A3 k2 k3 _ HC23.out HC3.out hCl hCl HCS.out HCS.out).mono ?_); rw [decide_eq_true (show C = C from rfl)]; rintro e w6 ⟨rfl, hd6⟩
         have HS6 := Aside0.mk (HS3.out.drewd hd6)
         clear hd6)
      | (go_at_call 12; go_must (refine (awake_any _ (T_below HT.out (below_then HBw1.out HBw1.out.size HS6.out.1))).mono ?_); rintro e w7 ⟨rfl, HB7⟩
         have HS7 := Aside0.mk (HS6.out.call HB7)
         clear HB7))
    go_ret
    exact ⟨by rfl, below_then HBw1.out HBw1.out.size HS7.out.1⟩
  | true =>
    obtain ⟨x1, x2, x3, x4⟩ := GExt.ext_facts m G (by omega) hok
    have hre := fun A1 k1 w1 h2 => rext_any m G A1 k1 w1 h2 hGl hok
    have hxe : extE m G = edgesOf (extF (joins f0 G) m) m := by simp [extE, hok]
    rw [hxe] at hre
    generalize edgesOf (extF (joins f0 G) m) m = X at *
    obtain ⟨s1, s2⟩ := clq_sh m X
    rw [Int.toNat_natCast] at s1
    have hcl := fun A1 k1 w1 h1 h2 => cliq_any m X A1 k1 w1 h1 h2 x4 (by omega)
    have hrc := fun A1 k1 w1 h2 => rcliq_any m X A1 k1 w1 h2 x4 x1
    generalize clqL m X = C at *
    generalize clqC m X = z at *
    have db : (z == z) = true := by simp
    have hCl : C.length ≤ 1000000 := by omega
    have HCL := Aside0.mk hcl
    have HRC := Aside0.mk hrc
    have HCS := Aside0.mk s2
    have HRE := Aside0.mk hre
    clear hcl hrc s2 hok h40 hre hxe x1 x2 x3
    go_enter Tryd.func4, Tryd.ntmps4
    go_wp2_with (first
      | (go_at_call 16; go_must (refine (HMD.out w HC.out).mono ?_); rintro e w1 ⟨v1, rfl, HO1, HB1⟩; obtain ⟨A1, k1, rfl, hc1, hC1⟩ := Kd.R_reads HO1
         have HC1 := Aside0.mk hC1
         have HBw1 : Aside0 (Below w.heap.size w w1) := ⟨HB1⟩
         have HS1 := Aside0.mk (GS.start m A1 G.length k1 w1)
         clear hC1 HO1 HB1)
      | (go_at_call 17; go_must (refine (HRE.out _ _ _ (Kd.C_below HC1.out HS1.out.1)).mono ?_); rintro e w5 ⟨v5, rfl, HO5, HB5⟩; obtain ⟨A5, k5, rfl, hc5, hC5⟩ := Kd.R_reads HO5
         have HS5 := Aside0.mk (HS1.out.call HB5)
         have HO5 := Aside0.mk HO5
         have g0 := HS5.out.c0
         have g1 := HS5.out.c1
         have fz0 := blk_frozen HS5.out.2 0
         have fz1 := blk_frozen HS5.out.2 1
         have hbk0 := HS5.out.2
         have hbk1 := blk_set hbk0 0 (.int .i64 m)
         have hbk2 := blk_set hbk1 1 (.slice A5 X.length k5)
         have HS6 : Aside0 (GS m A5 X.length k5 w1 ((w5.setCell ⟨w1.heap.size, 0, none⟩ (.int .i64 m)).setCell ⟨w1.heap.size, 1, none⟩ (.slice A5 X.length k5))) := ⟨⟨(HS5.out.1.setCell (by simp) _).setCell (by simp) _, hbk2⟩⟩
         have HC6 := Aside0.mk (R_at (Kd.R_set (Kd.R_set HO5.out hbk0 (by decide) 0 (.int .i64 m)) hbk1 (by decide) 1 (.slice A5 X.length k5))).2.2
         clear hC5 HB5 hbk0 hbk1 hbk2)
      | (go_at_call 18; go_must (refine (HCL.out _ _ _ (T_below HT.out (below_then HBw1.out HBw1.out.size HS6.out.1)) HC6.out).mono ?_); rintro e w2 ⟨v2, rfl, HO2, HB2⟩; obtain ⟨A2, k2, rfl, hc2, hC2⟩ := Kd.R_reads HO2
         have HC2 := Aside0.mk hC2
         have HC62 := Aside0.mk (Kd.C_below HC6.out HB2)
         have HS2 := Aside0.mk (HS6.out.call HB2)
         clear hC2 HO2 HB2 g0 g1 fz0 fz1
         have g0 := HS2.out.c0
         have g1 := HS2.out.c1)
      | (go_at_call 19; go_must (refine (HRC.out _ _ _ HC62.out).mono ?_); rintro e w3 ⟨v3, rfl, HO3, HB3⟩; obtain ⟨A3, k3, rfl, hc3, hC3⟩ := Kd.R_reads HO3
         have HC3 := Aside0.mk hC3
         have HC23 : Aside0 (KS.C w3 A2 C.length C) := ⟨Kd.C_below HC2.out HB3⟩
         have HS3 := Aside0.mk (HS2.out.call HB3)
         clear hC3 HO3 HB3 g0 g1)
      | (go_at_call 20; go_must (refine (lists_any C C A2 A3 k2 k3 _ HC23.out HC3.out hCl hCl HCS.out HCS.out).mono ?_); rw [decide_eq_true (show C = C from rfl)]; rintro e w8 ⟨rfl, hd6⟩
         have HS8 := Aside0.mk (HS3.out.drewd hd6)
         clear hd6)
      | (go_at_call 12; go_must (refine (awake_any _ (T_below HT.out (below_then HBw1.out HBw1.out.size HS8.out.1))).mono ?_); rintro e w7 ⟨rfl, HB7⟩
         have HS7 := Aside0.mk (HS8.out.call HB7)
         clear HB7))
    go_ret
    exact ⟨by rfl, below_then HBw1.out HBw1.out.size HS7.out.1⟩
end Go.Proofs.YtkkfoonaobehaaaDoor.GCli
