import Derived.Test.YtkkfoonaobehaaaDoorGMax
import Derived.Test.YtkkfoonaobehaaaDoorChT5
namespace Go.Proofs.YtkkfoonaobehaaaDoor.GInt
open Go.RowKit Go.Proofs.YtkkfoonaobehaaaDoorW.PrintWords Go.Proofs.YtkkfoonaobehaaaDoor.Bits Go.Proofs.YtkkfoonaobehaaaDoor.Low Go.Proofs.YtkkfoonaobehaaaDoor.Sets Go.Proofs.YtkkfoonaobehaaaDoor.Read Go.Proofs.YtkkfoonaobehaaaDoor.Ext Go.Proofs.YtkkfoonaobehaaaDoor.ExtW Go.Proofs.YtkkfoonaobehaaaDoor.Chord Go.Proofs.YtkkfoonaobehaaaDoor.Sort Go.Proofs.YtkkfoonaobehaaaDoor.Cl Go.Proofs.YtkkfoonaobehaaaDoor.Tr Go.Proofs.YtkkfoonaobehaaaDoor.Keep Go.Proofs.YtkkfoonaobehaaaDoor.Val Go.Proofs.YtkkfoonaobehaaaDoor.Adj Go.Proofs.YtkkfoonaobehaaaDoor.Aw Go.Proofs.YtkkfoonaobehaaaDoor.Made Go.Proofs.YtkkfoonaobehaaaDoor.ChD Go.Proofs.YtkkfoonaobehaaaDoor.GExt Go.Proofs.YtkkfoonaobehaaaDoor.GMax Go.Proofs.YtkkfoonaobehaaaDoor.ChT3 Go.Proofs.YtkkfoonaobehaaaDoor.ChT5
set_option maxHeartbeats 800000
set_option maxRecDepth 100000
set_option linter.unusedVariables false
set_option linter.unusedSimpArgs false
theorem counts_le (C : List (List Int)) (t : List Int) (v : Int) : ∀ i, setsTo C v i ≤ i ∧ linksTo C t v i ≤ i
  | 0 => ⟨Nat.le_refl _, Nat.le_refl _⟩
  | i + 1 => by
    obtain ⟨h1, h2⟩ := counts_le C t v i
    rw [setsTo, linksTo]
    constructor
    · split <;> omega
    · split <;> omega
set_option maxHeartbeats 1600000 in
theorem gint_any (n : Int) (E : List (Int × Int)) (A : Option Addr) (c : Nat) (w : World) (hT : T w) (hE : KE.C w A E.length E) :
    Calls Tryd.prog 6 #[.int .i64 n, .slice A E.length c] w fun e w' => e = .returned (.bool true) ∧ Below w.heap.size w w' := by
  have HT := Aside0.mk hT
  have HC := Aside0.mk hE
  clear hT hE
  by_cases h40 : 40 < E.length
  · have d1 : decide ((40 : Int) < (E.length : Int)) = true := by simp; omega
    go_enter Tryd.func6, Tryd.ntmps6
    go_wp2_with (first
      | (go_at_call 16; go_must (refine (made_big n E A c w h40).mono ?_); rintro e w1 ⟨rfl, HB1⟩)
      | (go_at_call 12; go_must (refine (awake_any _ (T_below HT.out (HB1.alloc HB1.size _))).mono ?_); rintro e w2 ⟨rfl, HB2⟩))
    go_ret
    exact ⟨by rfl, below_then (HB1.alloc HB1.size _) (HB1.alloc HB1.size (.cells #[.int .i64 0, .slice none 0 0] 25)).size HB2⟩
  have d40 : decide ((40 : Int) < (E.length : Int)) = false := by simp; omega
  have hmade := fun w1 h1 => made_any n E A c w1 h1 (by omega)
  have hm0 := Int.emod_nonneg n (show (9 : Int) ≠ 0 by decide)
  have hm1 := Int.emod_lt_of_pos n (show (0 : Int) < 9 by decide)
  have hok := mdG_ok n E
  have hGl : (mdG n E).length ≤ 1000000 := Go.Proofs.YtkkfoonaobehaaaDoor.GMake.mkE_len _ _
  generalize mdG n E = G at *
  generalize n % 9 = m at *
  obtain ⟨m, rfl⟩ := Int.eq_ofNat_of_zero_le hm0
  obtain ⟨x1, x2, x3, x4⟩ := ext_facts m G (by omega) hok
  have hext := fun A1 c1 w1 h1 h2 => ext_any m G A1 c1 w1 h1 h2 hGl
  rw [show extN m G = m by simp [extN, hok], show extC m G = 0 by simp [extC, hok], show extE m G = edgesOf (extF (joins f0 G) m) m by simp [extE, hok]] at hext
  generalize edgesOf (extF (joins f0 G) m) m = X at *
  obtain ⟨tk, tc⟩ := tree_ok (show m ≤ 64 by omega) x1 x2
  obtain ⟨c1, c2, c3, c4, c5⟩ := cliq_ok (show m ≤ 64 by omega) x1 x2
  have hcl := fun A1 c1 w1 h1 h2 => cliq_any m X A1 c1 w1 h1 h2 x4 (by omega)
  rw [show clqC m X = 0 by
    have := x2
    rw [chordB, x1, Bool.true_and] at this
    rw [clqC, if_pos x1, if_pos this]] at hcl
  generalize clqL m X = C at *
  have HMD := Aside0.mk hmade
  have HEX := Aside0.mk hext
  have HCL := Aside0.mk hcl
  have H3 := Aside0.mk c3
  have htr := fun A1 k1 w1 h1 => tree_any C A1 k1 w1 h1 (by omega) (fun i hi => by have := c3 i hi; omega)
  rw [tc] at htr
  generalize treeL C = t at *
  obtain ⟨t1, t2, t3⟩ := tk
  have htl := t1
  have HTR := Aside0.mk htr
  have HT2 := Aside0.mk t2
  have HT3 := Aside0.mk t3
  have d5 : ((t.length : Int) == (C.length : Int)) = true := by simp [t1]
  have d5n : ((t.length : Int) != (C.length : Int)) = false := by simp [t1]
  clear hmade hext hcl htr x1 x2 x3 c2 c3 c4 c5 t1 t2 t3 tc hok hm0 h40
  go_enter Tryd.func6, Tryd.ntmps6
  go_wp2_with (first
    | (go_at_call 16; go_must (refine (HMD.out w HC.out).mono ?_); rintro e w1 ⟨v1, rfl, HO1, HB1⟩; obtain ⟨A1, k1, rfl, hc1, hC1⟩ := Kd.R_reads HO1
       have HC1 := Aside0.mk hC1
       have HBw1 : Aside0 (Below w.heap.size w w1) := ⟨HB1⟩
       clear hC1 HO1 HB1)
    | (go_at_call 25; go_must (refine (HEX.out _ _ _ (T_below HT.out (HBw1.out.alloc HBw1.out.size _)) (Kd.C_below HC1.out ((Below.refl _ _).alloc (Nat.le_refl _) _))).mono ?_); rintro e w2 ⟨v2, rfl, HO2, HB2⟩; obtain ⟨A2, k2, rfl, hc2, hC2⟩ := Kd.R_reads HO2
       have HC2 := Aside0.mk hC2
       have HBw2 : Aside0 (Below w.heap.size w w2) := ⟨below_then (HBw1.out.alloc HBw1.out.size _) (by have := HBw1.out.size; simp; omega) HB2⟩
       clear hC2 HO2 HB2)
    | (go_at_call 18; go_must (refine (HCL.out _ _ _ (T_below HT.out (HBw2.out.alloc HBw2.out.size _)) (Kd.C_below HC2.out ((Below.refl _ _).alloc (Nat.le_refl _) _))).mono ?_); rintro e w3 ⟨v3, rfl, HO3, HB3⟩; obtain ⟨A3, k3, rfl, hc3, hC3⟩ := Kd.R_reads HO3
       have HX3 := Aside0.mk (blk_below (blk_at (o := .cells #[.int .i64 m, .slice A2 X.length k2] 25) (w := w2) rfl) HB3)
       have HC23 : Aside0 (KE.C w3 A2 X.length X) := ⟨Kd.C_below HC2.out (below_then ((Below.refl _ _).alloc (Nat.le_refl _) _) (by simp) HB3)⟩
       have HC33 := Aside0.mk hC3
       have HBw3 : Aside0 (Below w.heap.size w w3) := ⟨below_then (HBw2.out.alloc HBw2.out.size _) (by have := HBw2.out.size; simp; omega) HB3⟩
       have x30 : w3.cell? ⟨w2.heap.size, 0, none⟩ = some (.int .i64 m) := (blk_cell HX3.out 0).trans rfl
       have x31 : w3.cell? ⟨w2.heap.size, 1, none⟩ = some (.slice A2 X.length k2) := (blk_cell HX3.out 1).trans rfl
       clear HB3 HO3 hC3)
    | (go_at_call 22; go_must (refine (HTR.out _ _ _ HC33.out).mono ?_); rintro e w4 ⟨v4, rfl, HO4, HB4⟩; obtain ⟨A4, k4, rfl, hc4, hC4⟩ := Kd.R_reads HO4
       have HX4 := Aside0.mk (blk_below HX3.out HB4)
       have HC34 : Aside0 (KS.C w4 A3 C.length C) := ⟨Kd.C_below HC33.out HB4⟩
       have HC44 := Aside0.mk hC4
       have HBw4 : Aside0 (Below w.heap.size w w4) := ⟨below_then HBw3.out HBw3.out.size HB4⟩
       clear HB4 HO4 hC4))
  clear d5 d5n
  have hmB : m ≤ 8 := by omega
  have HHAS := Aside0.mk (fun (xs : List Int) (x : Int) (B : Option Addr) (cc : Nat) (w' : World) h1 h2 => has_any xs x B cc w' h1 h2)
  have g0 : w4.cell? ⟨w2.heap.size, 0, none⟩ = some (.int .i64 m) := (blk_cell HX4.out 0).trans rfl
  have HROW := Aside0.mk (fun i hi => elemC HC34.out i hi)
  go_loop [13, 14, 15, 16] (fun v _ _ _ => ∃ q : Nat, v = .int .i64 q ∧ q ≤ m) (fun v _ _ _ => m - (intOf v).toNat)
  case atStart => exact ⟨0, rfl, by omega⟩
  case round =>
    obtain ⟨v, rfl, hv⟩ := hrel
    by_cases hvm : v < m
    · have HCN := Aside0.mk (HT3.out v hvm)
      go_wp2_with fail
      go_loop [14, 15, 16] (fun sn ln i => ∃ q : Nat, i = .int .i64 q ∧ q ≤ C.length ∧ sn = .int .i64 (setsTo C v q) ∧ ln = .int .i64 (linksTo C t v q)) (fun _ _ i => C.length - (intOf i).toNat)
      case atStart => exact ⟨0, rfl, by omega, rfl, rfl⟩
      case round =>
        obtain ⟨i, rfl, hi, rfl, rfl⟩ := hrel
        by_cases hil : i < C.length
        · obtain ⟨sb, lb⟩ := counts_le C t v i
          obtain ⟨r1, r2, r3⟩ := HT2.out i hil
          obtain ⟨ad4, ead4, hy⟩ := Kd.at_int HC44.out i (by omega) (by omega)
          have hrd : rd t i = t.getD i 0 := by simp [rd]
          rw [hrd] at hy
          simp only [Int.toNat_natCast] at hy
          cases ead4
          obtain ⟨ad3, A5, c5, ead3, hx, hlx, hCx⟩ := HROW.out i hil
          cases ead3
          have hrl := H3.out i hil
          have HS : Aside0 (setsTo C v (i + 1) = setsTo C v i + if hasB (C.getD i []) v = true then 1 else 0) := ⟨rfl⟩
          have HL : Aside0 (linksTo C t v (i + 1) = linksTo C t v i + if (hasB (C.getD i []) v && (decide (0 ≤ t.getD i 0) && hasB (C.getD (t.getD i 0).toNat []) v)) = true then 1 else 0) := ⟨rfl⟩
          have d1 : decide (t.getD i 0 < -1) = false := by simp only [decide_eq_false_iff_not]; omega
          have d2 : decide ((C.length : Int) ≤ t.getD i 0) = false := by simp only [decide_eq_false_iff_not]; omega
          have d3 : (t.getD i 0 == (i : Int)) = false := by simp only [beq_eq_false_iff_ne, ne_eq]; exact r3
          have HA := HHAS.out (C.getD i []) v A5 c5 w4 hCx (by omega)
          have HX := Aside0.mk hx
          have HR2 := Aside0.mk r2
          clear hCx hrd r2 r3 hx
          generalize setsTo C v i = sn at *
          generalize linksTo C t v i = ln at *
          generalize t.getD i 0 = ti at *
          have hx := HX.out
          by_cases h1 : hasB (C.getD i []) v = true
          · rw [h1] at HA HS HL
            have HA1 := Aside0.mk HA
            by_cases h2 : 0 ≤ ti
            · obtain ⟨k, rfl⟩ := Int.eq_ofNat_of_zero_le h2
              have hkl : k < C.length := by have := HR2.out; omega
              obtain ⟨ad5, A6, c6, ead5, hx6, hlx6, hCx6⟩ := HROW.out k hkl
              cases ead5
              have hrl6 := H3.out k hkl
              have HB6 := HHAS.out (C.getD k []) v A6 c6 w4 hCx6 (by omega)
              rw [Int.toNat_natCast] at HL
              have hki : k ≠ i := fun e => by subst e; simp at d3
              have d2n : decide (C.length ≤ k) = false := by simp; omega
              have d3n : (k == i) = false := by simp; exact hki
              generalize hxs : C.getD i [] = xs at *
              generalize hys : C.getD k [] = ys at *
              clear hxs hys hCx6 HA h1 h2
              by_cases h3 : hasB ys v = true
              · rw [h3] at HB6 HL
                have HA2 := Aside0.mk HB6
                have HS2 : Aside0 (setsTo C v (i + 1) = sn + 1) := ⟨by rw [HS.out]; rfl⟩
                have HL2 : Aside0 (linksTo C t v (i + 1) = ln + 1) := ⟨by rw [HL.out]; simp⟩
                clear HB6 HS HL h3
                go_wp2_with (first
                  | (go_at_call 26; ((with_reducible refine HA1.out.mono ?_); rintro e w5 ⟨rfl, rfl⟩))
                  | (go_at_call 26; ((with_reducible refine HA2.out.mono ?_); rintro e w5 ⟨rfl, rfl⟩)))
                exact ⟨⟨i + 1, by go_num, by omega, by rw [HS2.out]; go_num, by rw [HL2.out]; go_num⟩, by simp [intOf]; omega⟩
              · have h3' : hasB ys v = false := by simpa using h3
                rw [h3'] at HB6 HL
                have HA2 := Aside0.mk HB6
                have HS2 : Aside0 (setsTo C v (i + 1) = sn + 1) := ⟨by rw [HS.out]; rfl⟩
                have HL2 : Aside0 (linksTo C t v (i + 1) = ln) := ⟨by rw [HL.out]; simp⟩
                clear HB6 HS HL h3 h3'
                go_wp2_with (first
                  | (go_at_call 26; ((with_reducible refine HA1.out.mono ?_); rintro e w5 ⟨rfl, rfl⟩))
                  | (go_at_call 26; ((with_reducible refine HA2.out.mono ?_); rintro e w5 ⟨rfl, rfl⟩)))
                exact ⟨⟨i + 1, by go_num, by omega, by rw [HS2.out]; go_num, by rw [HL2.out]⟩, by simp [intOf]; omega⟩
            · have d4 : decide (0 ≤ ti) = false := by simpa using h2
              have HS2 : Aside0 (setsTo C v (i + 1) = sn + 1) := ⟨by rw [HS.out]; rfl⟩
              have HL2 : Aside0 (linksTo C t v (i + 1) = ln) := ⟨by rw [HL.out, d4]; simp⟩
              generalize hxs : C.getD i [] = xs at *
              clear hxs HA HS HL h1 h2
              go_wp2_with (go_at_call 26; ((with_reducible refine HA1.out.mono ?_); rintro e w5 ⟨rfl, rfl⟩))
              exact ⟨⟨i + 1, by go_num, by omega, by rw [HS2.out]; go_num, by rw [HL2.out]⟩, by simp [intOf]; omega⟩
          · have h1' : hasB (C.getD i []) v = false := by simpa using h1
            rw [h1'] at HA HS HL
            have HA1 := Aside0.mk HA
            have HS2 : Aside0 (setsTo C v (i + 1) = sn) := ⟨by rw [HS.out]; simp⟩
            have HL2 : Aside0 (linksTo C t v (i + 1) = ln) := ⟨by rw [HL.out]; simp⟩
            generalize hxs : C.getD i [] = xs at *
            clear hxs HA HS HL h1 h1'
            go_wp2_with (go_at_call 26; ((with_reducible refine HA1.out.mono ?_); rintro e w5 ⟨rfl, rfl⟩))
            exact ⟨⟨i + 1, by go_num, by omega, by rw [HS2.out], by rw [HL2.out]⟩, by simp [intOf]; omega⟩
        · obtain rfl : i = C.length := by omega
          obtain ⟨sb, lb⟩ := counts_le C t v C.length
          have hcn := HCN.out.2
          rw [← hcn]
          generalize linksTo C t v C.length = ln at *
          have d1 : (((ln : Int) + 1) == 0) = false := by simp only [beq_eq_false_iff_ne, ne_eq]; omega
          clear hcn sb
          go_wp2_with fail
          exact ⟨⟨v + 1, by go_num, by omega⟩, by simp [intOf]; omega⟩
    · obtain rfl : v = m := by omega
      go_wp2_with (go_at_call 12; go_must (refine (awake_any _ (T_below HT.out HBw4.out)).mono ?_); rintro e w9 ⟨rfl, HB9⟩)
      go_ret
      exact ⟨by rfl, below_then HBw4.out HBw4.out.size HB9⟩
end Go.Proofs.YtkkfoonaobehaaaDoor.GInt
