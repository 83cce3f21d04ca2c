import Derived.Test.YtkkfoonaobehaaaDoorRFn
import Derived.Test.YtkkfoonaobehaaaDoorGExt
import Derived.Test.YtkkfoonaobehaaaDoorCompP
namespace Go.Proofs.YtkkfoonaobehaaaDoor.GSea
open Go.RowKit Go.Proofs.YtkkfoonaobehaaaDoorW.PrintWords Go.Proofs.YtkkfoonaobehaaaDoor.Bits Go.Proofs.YtkkfoonaobehaaaDoor.Low Go.Proofs.YtkkfoonaobehaaaDoor.Sets Go.Proofs.YtkkfoonaobehaaaDoor.Read Go.Proofs.YtkkfoonaobehaaaDoor.Search Go.Proofs.YtkkfoonaobehaaaDoor.Ext Go.Proofs.YtkkfoonaobehaaaDoor.ExtW Go.Proofs.YtkkfoonaobehaaaDoor.Chord Go.Proofs.YtkkfoonaobehaaaDoor.Sort Go.Proofs.YtkkfoonaobehaaaDoor.Keep Go.Proofs.YtkkfoonaobehaaaDoor.Aw Go.Proofs.YtkkfoonaobehaaaDoor.Made Go.Proofs.YtkkfoonaobehaaaDoor.Ord Go.Proofs.YtkkfoonaobehaaaDoor.Comp Go.Proofs.YtkkfoonaobehaaaDoor.GRaw Go.Proofs.YtkkfoonaobehaaaDoor.RFn
set_option maxHeartbeats 1600000
set_option maxRecDepth 100000
set_option linter.unusedVariables false
set_option linter.unusedSimpArgs false
theorem gsea_any (n : Int) (E : List (Int × Int)) (A : Option Addr) (c : Nat) (w : World) (hT : T w) (hE : KE.C w A E.length E) :
    Calls Tryd.prog 10 #[.int .i64 n, .slice A E.length c] w fun e w' => e = .returned (.bool true) ∧ Below w.heap.size w w' := by
  have HT := Aside0.mk hT
  have HC := Aside0.mk hE
  clear hT hE
  by_cases h40 : 40 < E.length
  · have d1 : decide ((40 : Int) < (E.length : Int)) = true := by simp; omega
    go_enter Tryd.func10, Tryd.ntmps10
    go_wp2_with (first
      | (go_at_call 16; go_must (refine (made_big n E A c w h40).mono ?_); rintro e w1 ⟨rfl, HB1⟩)
      | (go_at_call 12; go_must (refine (awake_any _ (T_below HT.out (HB1.alloc HB1.size _))).mono ?_); rintro e w2 ⟨rfl, HB2⟩))
    go_ret
    exact ⟨by rfl, below_then (HB1.alloc HB1.size _) (HB1.alloc HB1.size (.cells #[.int .i64 0, .slice none 0 0] 25)).size HB2⟩
  have d40 : decide ((40 : Int) < (E.length : Int)) = false := by simp; omega
  have hmade := fun w1 h1 => made_any n E A c w1 h1 (by omega)
  have hm0 := Int.emod_nonneg n (show (9 : Int) ≠ 0 by decide)
  have hm1 := Int.emod_lt_of_pos n (show (0 : Int) < 9 by decide)
  have hok := mdG_ok n E
  have hGl : (mdG n E).length ≤ 1000000 := Go.Proofs.YtkkfoonaobehaaaDoor.GMake.mkE_len _ _
  generalize mdG n E = G at *
  generalize n % 9 = m at *
  obtain ⟨m, rfl⟩ := Int.eq_ofNat_of_zero_le hm0
  obtain ⟨p1, p2, _, _, _, _⟩ := CompP.comp_ok m G (by omega) hok
  obtain ⟨x1, x2, x3, x4⟩ := GExt.ext_facts m G (by omega) hok
  have hcs : ∀ i, ((compL m G).getD i []).length ≤ 1000000 := fun i => by
    by_cases h : i < (compL m G).length
    · have := p2 i h; omega
    · simp [List.getD_eq_getElem?_getD, List.getElem?_eq_none (show (compL m G).length ≤ i by omega)]
  have hol : (ordL m G).length ≤ 1000000 := by
    rw [ordL, if_pos hok, List.length_map, Int.toNat_natCast, (searchL_inv _ _).1]; omega
  have hco := fun A1 k1 w1 h1 h2 => comp_any m G A1 k1 w1 h1 h2 hGl hok
  have hrc := fun A1 k1 w1 h2 => rcomp_any m G A1 k1 w1 h2 hGl hok
  have hor := fun A1 k1 w1 h2 => ord_any m G A1 k1 w1 h2 hGl
  have hro := fun A1 k1 w1 h2 => rord_any m G A1 k1 w1 h2 hGl hok
  have hch := fun A1 k1 w1 h1 h2 => chord_any m G A1 k1 w1 h1 h2 hGl
  have hrh := fun A1 k1 w1 h2 => rchord_any m G A1 k1 w1 h2 hGl hok
  have hex := fun A1 k1 w1 h1 h2 => ext_any m G A1 k1 w1 h1 h2 hGl
  have hre := fun A1 k1 w1 h2 => rext_any m G A1 k1 w1 h2 hGl hok
  rw [show Chord.okC m G = 0 by simp [Chord.okC, hok]] at hor
  rw [show Chord.okC m G = 0 by simp [Chord.okC, hok]] at hch
  have hxe : extE m G = edgesOf (extF (joins f0 G) m) m := by simp [extE, hok]
  rw [show extN m G = m by simp [extN, hok], show extC m G = 0 by simp [extC, hok], hxe] at hex
  rw [hxe] at hre
  generalize compL m G = C at *
  generalize ordL m G = O at *
  generalize chordB m G = b at *
  generalize edgesOf (extF (joins f0 G) m) m = X at *
  have hCl : C.length ≤ 1000000 := by omega
  have HMD := Aside0.mk hmade
  have HCO := Aside0.mk hco
  have HRC := Aside0.mk hrc
  have HOR := Aside0.mk hor
  have HRO := Aside0.mk hro
  have HCH := Aside0.mk hch
  have HRH := Aside0.mk hrh
  have HEX := Aside0.mk hex
  have HRE := Aside0.mk hre
  have HCS := Aside0.mk hcs
  have db : (b == b) = true := by simp
  clear hmade hco hrc hor hro hch hrh hex hre hcs hxe x1 x2 x3 p1 p2 hok hm0 h40
  go_enter Tryd.func10, Tryd.ntmps10
  go_wp2_with (first
    | (go_at_call 16; go_must (refine (HMD.out w HC.out).mono ?_); rintro e w1 ⟨v1, rfl, HO1, HB1⟩; obtain ⟨A1, k1, rfl, hc1, hC1⟩ := Kd.R_reads HO1
       have HC1 := Aside0.mk hC1
       have HBw1 : Aside0 (Below w.heap.size w w1) := ⟨HB1⟩
       have HS1 := Aside0.mk (GS.start m A1 G.length k1 w1)
       have g0 := HS1.out.c0
       have g1 := HS1.out.c1
       clear hC1 HO1 HB1)
    | (go_at_call 30; go_must (refine (HCO.out _ _ _ (T_below HT.out (below_then HBw1.out HBw1.out.size HS1.out.1)) (Kd.C_below HC1.out HS1.out.1)).mono ?_); rintro e w2 ⟨v2, rfl, HO2, HB2⟩; obtain ⟨A2, k2, rfl, hc2, hC2⟩ := Kd.R_reads HO2
       have HC2 := Aside0.mk hC2
       have HS2 := Aside0.mk (HS1.out.call HB2)
       clear hC2 HO2 HB2 g0 g1
       have g0 := HS2.out.c0
       have g1 := HS2.out.c1)
    | (go_at_call 31; go_must (refine (HRC.out _ _ _ (Kd.C_below HC1.out HS2.out.1)).mono ?_); rintro e w3 ⟨v3, rfl, HO3, HB3⟩; obtain ⟨A3, k3, rfl, hc3, hC3⟩ := Kd.R_reads HO3
       have HC3 := Aside0.mk hC3
       have HC23 : Aside0 (KS.C w3 A2 C.length C) := ⟨Kd.C_below HC2.out HB3⟩
       have HS3 := Aside0.mk (HS2.out.call HB3)
       clear hC3 HO3 HB3 g0 g1
       have g0 := HS3.out.c0
       have g1 := HS3.out.c1)
    | (go_at_call 32; go_must (refine (HOR.out _ _ _ (Kd.C_below HC1.out HS3.out.1)).mono ?_); rintro e w4 ⟨v4, rfl, HO4, HB4⟩; obtain ⟨A4, k4, rfl, hc4, hC4⟩ := Kd.R_reads HO4
       have HC4 := Aside0.mk hC4
       have HC24 : Aside0 (KS.C w4 A2 C.length C) := ⟨Kd.C_below HC23.out HB4⟩
       have HC34 : Aside0 (KS.C w4 A3 C.length C) := ⟨Kd.C_below HC3.out HB4⟩
       have HS4 := Aside0.mk (HS3.out.call HB4)
       clear hC4 HO4 HB4 g0 g1
       have g0 := HS4.out.c0
       have g1 := HS4.out.c1)
    | (go_at_call 33; go_must (refine (HRO.out _ _ _ (Kd.C_below HC1.out HS4.out.1)).mono ?_); rintro e w5 ⟨v5, rfl, HO5, HB5⟩; obtain ⟨A5, k5, rfl, hc5, hC5⟩ := Kd.R_reads HO5
       have HC5 := Aside0.mk hC5
       have HC25 : Aside0 (KS.C w5 A2 C.length C) := ⟨Kd.C_below HC24.out HB5⟩
       have HC35 : Aside0 (KS.C w5 A3 C.length C) := ⟨Kd.C_below HC34.out HB5⟩
       have HC45 : Aside0 (KI.C w5 A4 O.length O) := ⟨Kd.C_below HC4.out HB5⟩
       have HS5 := Aside0.mk (HS4.out.call HB5)
       clear hC5 HO5 HB5 g0 g1)
    | (go_at_call 20; go_must (refine (lists_any C C A2 A3 k2 k3 _ HC25.out HC35.out hCl hCl HCS.out HCS.out).mono ?_); rw [decide_eq_true (show C = C from rfl)]; rintro e w6 ⟨rfl, hd6⟩
       have HC46 : Aside0 (KI.C w6 A4 O.length O) := ⟨Kd.C_below HC45.out (below_drewd hd6)⟩
       have HC56 : Aside0 (KI.C w6 A5 O.length O) := ⟨Kd.C_below HC5.out (below_drewd hd6)⟩
       have HS6 := Aside0.mk (HS5.out.drewd hd6)
       clear hd6)
    | (go_at_call 24; go_must (refine (ints_any O O A4 A5 k4 k5 _ HC46.out HC56.out hol hol).mono ?_); rw [decide_eq_true (show O = O from rfl)]; rintro e w7 ⟨rfl, hd7⟩
       have HS7 := Aside0.mk (HS6.out.drewd hd7)
       clear hd7
       have g0 := HS7.out.c0
       have g1 := HS7.out.c1)
    | (go_at_call 28; go_must (refine (HCH.out _ _ _ (T_below HT.out (below_then HBw1.out HBw1.out.size HS7.out.1)) (Kd.C_below HC1.out HS7.out.1)).mono ?_); rintro e w8 ⟨rfl, HB8⟩
       have HS8 := Aside0.mk (HS7.out.call HB8)
       clear HB8 g0 g1
       have g0 := HS8.out.c0
       have g1 := HS8.out.c1)
    | (go_at_call 34; go_must (refine (HRH.out _ _ _ (Kd.C_below HC1.out HS8.out.1)).mono ?_); rintro e w9 ⟨rfl, HB9⟩
       have HS9 := Aside0.mk (HS8.out.call HB9)
       clear HB9 g0 g1
       have g0 := HS9.out.c0
       have g1 := HS9.out.c1)
    | (go_at_call 25; go_must (refine (HEX.out _ _ _ (T_below HT.out (below_then HBw1.out HBw1.out.size HS9.out.1)) (Kd.C_below HC1.out HS9.out.1)).mono ?_); rintro e w10 ⟨v10, rfl, HO10, HB10⟩; obtain ⟨A10, k10, rfl, hc10, hC10⟩ := Kd.R_reads HO10
       have HC10 := Aside0.mk hC10
       have HS10 := Aside0.mk ((HS9.out.call HB10).alloc (.cells #[.int .i64 m, .slice A10 X.length k10] 25))
       clear hC10 HO10 HB10 g0 g1
       have g0 := HS10.out.c0
       have g1 := HS10.out.c1)
    | (go_at_call 17; go_must (refine (HRE.out _ _ _ (Kd.C_below HC1.out HS10.out.1)).mono ?_); rintro e w11 ⟨v11, rfl, HO11, HB11⟩; obtain ⟨A11, k11, rfl, hc11, hC11⟩ := Kd.R_reads HO11
       have HC11 := Aside0.mk (Kd.C_below hC11 ((Below.refl _ _).alloc (Nat.le_refl _) (.cells #[.int .i64 m, .slice A11 X.length k11] 25)))
       have hb11 := below_then ((Below.refl _ _).alloc (Nat.le_refl _) _) (by simp) HB11
       have HC1011 : Aside0 (KE.C (w11.alloc (.cells #[.int .i64 m, .slice A11 X.length k11] 25)) A10 X.length X) := ⟨Kd.C_below HC10.out (hb11.alloc hb11.size _)⟩
       have hG := blk_below (blk_at (o := .cells #[.int .i64 m, .slice A10 X.length k10] 25) (w := w10) rfl) HB11
       have hG2 := blk_alloc hG (.cells #[.int .i64 m, .slice A11 X.length k11] 25)
       have x0 : (w11.alloc (.cells #[.int .i64 m, .slice A11 X.length k11] 25)).cell? ⟨w10.heap.size, 0, none⟩ = some (.int .i64 m) := (blk_cell hG2 0).trans rfl
       have x1 : (w11.alloc (.cells #[.int .i64 m, .slice A11 X.length k11] 25)).cell? ⟨w10.heap.size, 1, none⟩ = some (.slice A10 X.length k10) := (blk_cell hG2 1).trans rfl
       have HS11 := Aside0.mk ((HS10.out.call HB11).alloc (.cells #[.int .i64 m, .slice A11 X.length k11] 25))
       clear hC11 HO11 HB11 g0 g1 hG hG2 hb11)
    | (go_at_call 15; go_must (refine (graphs_any m m X X A10 A11 k10 k11 _ HC1011.out HC11.out x4 x4).mono ?_); rw [decide_eq_true (show (m : Int) = m ∧ X = X from ⟨rfl, rfl⟩)]; rintro e w12 ⟨rfl, HB12⟩
       have HS12 := Aside0.mk (HS11.out.call HB12)
       clear HB12 x0 x1)
    | (go_at_call 12; go_must (refine (awake_any _ (T_below HT.out (below_then HBw1.out HBw1.out.size HS12.out.1))).mono ?_); rintro e w13 ⟨rfl, HB13⟩
       have HS13 := Aside0.mk (HS12.out.call HB13)
       clear HB13))
  go_ret
  exact ⟨by rfl, below_then HBw1.out HBw1.out.size HS13.out.1⟩
end Go.Proofs.YtkkfoonaobehaaaDoor.GSea
