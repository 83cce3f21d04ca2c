import Derived.Test.YtkkfoonaobehaaaDoorGExt
import Derived.Test.YtkkfoonaobehaaaDoorChD
import Derived.Test.YtkkfoonaobehaaaDoorOrd
namespace Go.Proofs.YtkkfoonaobehaaaDoor.GMax
open Go.RowKit Go.Proofs.YtkkfoonaobehaaaDoorW.PrintWords Go.Proofs.YtkkfoonaobehaaaDoor.Bits Go.Proofs.YtkkfoonaobehaaaDoor.Low Go.Proofs.YtkkfoonaobehaaaDoor.Sets Go.Proofs.YtkkfoonaobehaaaDoor.Read Go.Proofs.YtkkfoonaobehaaaDoor.Ext Go.Proofs.YtkkfoonaobehaaaDoor.ExtW Go.Proofs.YtkkfoonaobehaaaDoor.Chord Go.Proofs.YtkkfoonaobehaaaDoor.Sort Go.Proofs.YtkkfoonaobehaaaDoor.Cl Go.Proofs.YtkkfoonaobehaaaDoor.Tr Go.Proofs.YtkkfoonaobehaaaDoor.Keep Go.Proofs.YtkkfoonaobehaaaDoor.Val Go.Proofs.YtkkfoonaobehaaaDoor.Adj Go.Proofs.YtkkfoonaobehaaaDoor.Aw Go.Proofs.YtkkfoonaobehaaaDoor.Made Go.Proofs.YtkkfoonaobehaaaDoor.ChD Go.Proofs.YtkkfoonaobehaaaDoor.GExt
set_option maxHeartbeats 800000
set_option maxRecDepth 100000
set_option linter.unusedVariables false
set_option linter.unusedSimpArgs false
theorem has_any (xs : List Int) (x : Int) (A : Option Addr) (c : Nat) (w : World) (hx : KI.C w A xs.length xs) (lx : xs.length ≤ 1000000) :
    Calls Tryd.prog 26 #[.slice A xs.length c, .int .i64 x] w fun e w' => e = .returned (.bool (hasB xs x)) ∧ w' = w := by
  have HX := Aside0.mk hx
  clear hx
  obtain ⟨r, hr⟩ : ∃ r, r = hasB xs x := ⟨_, rfl⟩
  have HR := Aside0.mk hr
  rw [← hr]
  clear hr
  go_enter Tryd.func26, Tryd.ntmps26
  go_wp2_with fail
  go_loop [5] (fun i => ∃ k : Nat, i = .int .i64 k ∧ k ≤ xs.length ∧ Aside0 (∀ q, q < k → xs.getD q 0 ≠ x)) (fun i => xs.length - (intOf i).toNat)
  case atStart => exact ⟨0, rfl, by omega, ⟨fun q h => by omega⟩⟩
  case round =>
    obtain ⟨k, rfl, hk, HK⟩ := hrel
    by_cases hlt : k < xs.length
    · obtain ⟨ad, ead, hy⟩ := Kd.at_int HX.out k (by omega) (by omega)
      have hrd : rd xs k = xs.getD k 0 := by simp [rd]
      rw [hrd] at hy
      simp only [Int.toNat_natCast] at hy
      cases ead
      have HIN : Aside0 (xs.getD k 0 ∈ xs) := ⟨by rw [List.getD_eq_getElem?_getD, List.getElem?_eq_getElem hlt]; exact List.getElem_mem hlt⟩
      have HKX : Aside0 (xs.getD k 0 ≠ x → ∀ q, q < k + 1 → xs.getD q 0 ≠ x) := ⟨fun h q hq => by
        by_cases e : q = k
        · rw [e]; exact h
        · exact HK.out q (by omega)⟩
      generalize xs.getD k 0 = y at *
      clear hrd
      by_cases hyx : y = x
      · have d : ((y : Int) == x) = true := by simp [hyx]
        have HT : Aside0 (r = true) := ⟨by rw [HR.out, hasB_iff, ← hyx]; exact HIN.out⟩
        clear hyx
        go_wp2_with fail
        go_ret
        exact ⟨by rw [HT.out]; rfl, rfl⟩
      · have d : ((y : Int) == x) = false := by simp [hyx]
        have HK2 := Aside0.mk (HKX.out hyx)
        clear hyx
        go_wp2_with fail
        exact ⟨⟨k + 1, by go_num, by omega, HK2⟩, by simp [intOf]; omega⟩
    · obtain rfl : k = xs.length := by omega
      have HF : Aside0 (r = false) := ⟨by
        rw [HR.out, hasB, decide_eq_false_iff_not]
        intro h
        obtain ⟨q, hq, e⟩ := List.getElem_of_mem h
        exact HK.out q hq (by rw [List.getD_eq_getElem?_getD, List.getElem?_eq_getElem hq]; exact e)⟩
      go_wp2_with fail
      go_ret
      exact ⟨by rw [HF.out]; rfl, rfl⟩
set_option maxHeartbeats 3200000 in
theorem gmax_any (n : Int) (E : List (Int × Int)) (A : Option Addr) (c : Nat) (w : World) (hT : T w) (hE : KE.C w A E.length E) :
    Calls Tryd.prog 7 #[.int .i64 n, .slice A E.length c] w fun e w' => e = .returned (.bool true) ∧ Below w.heap.size w w' := by
  have HT := Aside0.mk hT
  have HC := Aside0.mk hE
  clear hT hE
  by_cases h40 : 40 < E.length
  · have d1 : decide ((40 : Int) < (E.length : Int)) = true := by simp; omega
    go_enter Tryd.func7, Tryd.ntmps7
    go_wp2_with (first
      | (go_at_call 16; go_must (refine (made_big n E A c w h40).mono ?_); rintro e w1 ⟨rfl, HB1⟩)
      | (go_at_call 12; go_must (refine (awake_any _ (T_below HT.out (HB1.alloc HB1.size _))).mono ?_); rintro e w2 ⟨rfl, HB2⟩))
    go_ret
    exact ⟨by rfl, below_then (HB1.alloc HB1.size _) (HB1.alloc HB1.size (.cells #[.int .i64 0, .slice none 0 0] 25)).size HB2⟩
  have d40 : decide ((40 : Int) < (E.length : Int)) = false := by simp; omega
  have hmade := fun w1 h1 => made_any n E A c w1 h1 (by omega)
  have hm0 := Int.emod_nonneg n (show (9 : Int) ≠ 0 by decide)
  have hm1 := Int.emod_lt_of_pos n (show (0 : Int) < 9 by decide)
  have hok := mdG_ok n E
  have hGl : (mdG n E).length ≤ 1000000 := Go.Proofs.YtkkfoonaobehaaaDoor.GMake.mkE_len _ _
  generalize mdG n E = G at *
  generalize n % 9 = m at *
  obtain ⟨m, rfl⟩ := Int.eq_ofNat_of_zero_le hm0
  obtain ⟨x1, x2, x3, x4⟩ := ext_facts m G (by omega) hok
  have hext := fun A1 c1 w1 h1 h2 => ext_any m G A1 c1 w1 h1 h2 hGl
  rw [show extN m G = m by simp [extN, hok], show extC m G = 0 by simp [extC, hok], show extE m G = edgesOf (extF (joins f0 G) m) m by simp [extE, hok]] at hext
  generalize edgesOf (extF (joins f0 G) m) m = X at *
  obtain ⟨c1, c2, c3, c4, c5⟩ := cliq_ok (show m ≤ 64 by omega) x1 x2
  have hcl := fun A1 c1 w1 h1 h2 => cliq_any m X A1 c1 w1 h1 h2 x4 (by omega)
  rw [show clqC m X = 0 by
    have := x2
    rw [chordB, x1, Bool.true_and] at this
    rw [clqC, if_pos x1, if_pos this]] at hcl
  generalize clqL m X = C at *
  have HMD := Aside0.mk hmade
  have HEX := Aside0.mk hext
  have HCL := Aside0.mk hcl
  have H3 := Aside0.mk c3
  have c3x := c3
  have H4 := Aside0.mk c4
  have H5 := Aside0.mk c5
  have d5 : decide ((m : Int) < (C.length : Int)) = false := by simp; omega
  have d5n : decide (m < C.length) = false := by simp; omega
  obtain ⟨z, hz1, hz2⟩ : ∃ z : Bool, ((C.length : Int) == 0) = z ∧ ((m : Int) == 0) = z := ⟨_, rfl, by rw [Bool.eq_iff_iff, beq_iff_eq, beq_iff_eq]; omega⟩
  have d6 : (z != z) = false := by simp
  clear hmade hext hcl x1 x2 x3 c2 c3 c4 c5 hok hm0 h40
  go_enter Tryd.func7, Tryd.ntmps7
  go_wp2_with (first
    | (go_at_call 16; go_must (refine (HMD.out w HC.out).mono ?_); rintro e w1 ⟨v1, rfl, HO1, HB1⟩; obtain ⟨A1, k1, rfl, hc1, hC1⟩ := Kd.R_reads HO1
       have HC1 := Aside0.mk hC1
       have HBw1 : Aside0 (Below w.heap.size w w1) := ⟨HB1⟩
       clear hC1 HO1 HB1)
    | (go_at_call 25; go_must (refine (HEX.out _ _ _ (T_below HT.out (HBw1.out.alloc HBw1.out.size _)) (Kd.C_below HC1.out ((Below.refl _ _).alloc (Nat.le_refl _) _))).mono ?_); rintro e w2 ⟨v2, rfl, HO2, HB2⟩; obtain ⟨A2, k2, rfl, hc2, hC2⟩ := Kd.R_reads HO2
       have HC2 := Aside0.mk hC2
       have HBw2 : Aside0 (Below w.heap.size w w2) := ⟨below_then (HBw1.out.alloc HBw1.out.size _) (by have := HBw1.out.size; simp; omega) HB2⟩
       clear hC2 HO2 HB2)
    | (go_at_call 18; go_must (refine (HCL.out _ _ _ (T_below HT.out (HBw2.out.alloc HBw2.out.size _)) (Kd.C_below HC2.out ((Below.refl _ _).alloc (Nat.le_refl _) _))).mono ?_); rintro e w3 ⟨v3, rfl, HO3, HB3⟩; obtain ⟨A3, k3, rfl, hc3, hC3⟩ := Kd.R_reads HO3
       have HX3 := Aside0.mk (blk_below (blk_at (o := .cells #[.int .i64 m, .slice A2 X.length k2] 25) (w := w2) rfl) HB3)
       have HC23 : Aside0 (KE.C w3 A2 X.length X) := ⟨Kd.C_below HC2.out (below_then ((Below.refl _ _).alloc (Nat.le_refl _) _) (by simp) HB3)⟩
       have HC33 := Aside0.mk hC3
       have HBw3 : Aside0 (Below w.heap.size w w3) := ⟨below_then (HBw2.out.alloc HBw2.out.size _) (by have := HBw2.out.size; simp; omega) HB3⟩
       have x30 : w3.cell? ⟨w2.heap.size, 0, none⟩ = some (.int .i64 m) := (blk_cell HX3.out 0).trans rfl
       have x31 : w3.cell? ⟨w2.heap.size, 1, none⟩ = some (.slice A2 X.length k2) := (blk_cell HX3.out 1).trans rfl
       clear HB3 HO3 hC3))
  clear x30 x31 hz1 hz2 d5 d5n
  have HHAS := Aside0.mk (fun (xs : List Int) (x : Int) (B : Option Addr) (cc : Nat) (w' : World) h1 h2 => has_any xs x B cc w' h1 h2)
  have HADJ := Aside0.mk (fun (i j : Int) (w1 : World) h1 => adj_any m X i j A2 k2 w1 h1 x4)
  go_loopw [11, 12, 13] (fun cv i _ wr => ∃ k : Nat, i = .int .i64 k ∧ cv = .int .i64 k ∧ k ≤ X.length ∧ Below w3.heap.size w3 wr) (fun _ i _ _ => X.length - (intOf i).toNat)
  case atStart => exact ⟨0, rfl, rfl, by omega, Below.refl _ _⟩
  case round =>
    obtain ⟨i, rfl, rfl, hi, hB⟩ := hrel
    have x31 : wr.cell? ⟨w2.heap.size, 1, none⟩ = some (.slice A2 X.length k2) := (blk_cell (blk_below HX3.out hB) 1).trans rfl
    by_cases hlt : i < X.length
    · have hin : X.getD i (0, 0) ∈ X := by rw [List.getD_eq_getElem?_getD, List.getElem?_eq_getElem hlt]; exact List.getElem_mem hlt
      have HEG := Aside0.mk (H4.out _ hin)
      obtain ⟨ad, ead, ha0, hb0⟩ := C_pair HC23.out i hlt
      cases ead
      have HA0 := Aside0.mk ha0
      have HB0 := Aside0.mk hb0
      clear hin ha0 hb0
      generalize X.getD i (0, 0) = e at *
      obtain ⟨a, b⟩ := e
      simp only at HA0 HB0 HEG
      go_wp2_with fail
      clear x31
      obtain ⟨wo, rfl⟩ : ∃ wo : World, wo = wr := ⟨_, rfl⟩
      go_loopw [11, 13] (fun cv q wr => ∃ k : Nat, q = .int .i64 k ∧ cv = .int .i64 i ∧ k ≤ C.length ∧ Aside0 (∀ j, j < k → ¬ (hasB (C.getD j []) a = true ∧ hasB (C.getD j []) b = true)) ∧ Below w3.heap.size w3 wr) (fun _ q _ => C.length - (intOf q).toNat)
      case atStart => exact ⟨0, rfl, rfl, by omega, ⟨fun j h => by omega⟩, hB⟩
      case round =>
        obtain ⟨k, rfl, rfl, hk, HN, hB2⟩ := hrel
        by_cases hkl : k < C.length
        · have x31 : wr.cell? ⟨w2.heap.size, 1, none⟩ = some (.slice (some ad) X.length k2) := (blk_cell (blk_below HX3.out hB2) 1).trans rfl
          have ha := pw_cell_below hB2 HA0.out
          have hb := pw_cell_below hB2 HB0.out
          obtain ⟨ad3, A4, c4, ead3, hx0, hlx, hCx⟩ := elemC HC33.out k hkl
          cases ead3
          have hx := pw_cell_below hB2 hx0
          have hrl := c3x k hkl
          have HNX : Aside0 (¬ (hasB (C.getD k []) a = true ∧ hasB (C.getD k []) b = true) → ∀ j, j < k + 1 → ¬ (hasB (C.getD j []) a = true ∧ hasB (C.getD j []) b = true)) := ⟨fun h j hj => by
            by_cases e : j = k
            · rw [e]; exact h
            · exact HN.out j (by omega)⟩
          have HCx : Aside0 (∀ q, KI.C (wr.drewN q) A4 (C.getD k []).length (C.getD k [])) := ⟨fun q => Kd.C_drewN (Kd.C_below hCx hB2) q⟩
          clear hx0 hCx
          generalize C.getD k [] = xs at *
          by_cases h1 : hasB xs a = true
          · by_cases h2 : hasB xs b = true
            · clear HNX HN HEG
              go_wp2_with fail
              go_quiet ((go_at_call 26; exact Calls.quiet_of_same (HHAS.out _ _ _ _ _ (HCx.out _) (by omega))))
              go_wp2_with fail
              exact ⟨⟨i + 1, by go_num, by go_num, by omega, pw_below_drewN hB2 _⟩, by simp [intOf]; omega⟩
            · have h2' : hasB xs b = false := by simpa using h2
              have HN2 := Aside0.mk (HNX.out (fun q => h2 q.2))
              clear HNX HN HEG h2
              go_wp2_with fail
              go_quiet ((go_at_call 26; exact Calls.quiet_of_same (HHAS.out _ _ _ _ _ (HCx.out _) (by omega))))
              go_wp2_with fail
              exact ⟨⟨k + 1, by go_num, rfl, by omega, HN2, pw_below_drewN hB2 _⟩, by simp [intOf]; omega⟩
          · have h1' : hasB xs a = false := by simpa using h1
            have HN2 := Aside0.mk (HNX.out (fun q => h1 q.1))
            have HH1 : Aside0 (∀ q, Calls Tryd.prog 26 #[.slice A4 xs.length c4, .int .i64 a] (wr.drewN q) fun e w' => e = .returned (.bool false) ∧ w' = wr.drewN q) := ⟨fun q => by
              have := HHAS.out xs a A4 c4 (wr.drewN q) (HCx.out q) (by omega)
              rw [h1'] at this
              exact this⟩
            clear HNX HN HEG h1 h1'
            go_wp2_with fail
            go_quiet ((go_at_call 26; exact Calls.quiet_of_same (HH1.out _)))
            go_wp2_with fail
            exact ⟨⟨k + 1, by go_num, rfl, by omega, HN2, pw_below_drewN hB2 _⟩, by simp [intOf]; omega⟩
        · exfalso
          obtain ⟨j, hj, hj2⟩ := HEG.out
          exact HN.out j (by omega) hj2
    · obtain rfl : i = X.length := by omega
      go_wp2_with fail
      clear x31
      go_loopw [14, 15, 16, 17] (fun k _ _ _ wr => ∃ q : Nat, k = .int .i64 q ∧ q ≤ C.length ∧ Below w3.heap.size w3 wr) (fun k _ _ _ _ => C.length - (intOf k).toNat)
      case atStart => exact ⟨0, rfl, by omega, hB⟩
      case round =>
        obtain ⟨k, rfl, hk, hB⟩ := hrel
        by_cases hkl : k < C.length
        · obtain ⟨ad3, A4, c4, ead3, hx0, hlx, hCx⟩ := elemC HC33.out k hkl
          cases ead3
          have HX0 := Aside0.mk hx0
          have HCx := Aside0.mk hCx
          have hrl := c3x k hkl
          have HM := Aside0.mk (H5.out k hkl)
          clear hx0 hCx
          generalize C.getD k [] = xs at *
          go_wp2_with fail
          obtain ⟨wo, rfl⟩ : ∃ wo : World, wo = wr := ⟨_, rfl⟩
          go_loopw [15, 16, 17] (fun v _ _ wr => ∃ q : Nat, v = .int .i64 q ∧ q ≤ m ∧ Below w3.heap.size w3 wr) (fun v _ _ _ => m - (intOf v).toNat)
          case atStart => exact ⟨0, rfl, by omega, hB⟩
          case round =>
            obtain ⟨v, rfl, hv, hB2⟩ := hrel
            have x30 : wr.cell? ⟨w2.heap.size, 0, none⟩ = some (.int .i64 m) := (blk_cell (blk_below HX3.out hB2) 0).trans rfl
            by_cases hvm : v < m
            · have HMV := Aside0.mk (HM.out v hvm)
              go_wp2_with fail
              clear x30
              obtain ⟨wo, rfl⟩ : ∃ wo : World, wo = wr := ⟨_, rfl⟩
              go_loopw [16, 17] (fun al i wr => ∃ q : Nat, i = .int .i64 q ∧ al = .bool (allTo m X xs v q) ∧ q ≤ xs.length ∧ Below w3.heap.size w3 wr) (fun _ i _ => xs.length - (intOf i).toNat)
              case atStart => exact ⟨0, rfl, rfl, by omega, hB2⟩
              case round =>
                obtain ⟨i, rfl, rfl, hi, hB3⟩ := hrel
                have hx := pw_cell_below hB3 HX0.out
                by_cases hil : i < xs.length
                · obtain ⟨ad4, ead4, hy⟩ := Kd.at_int (Kd.C_below HCx.out hB3) i (by omega) (by omega)
                  have hrd : rd xs i = xs.getD i 0 := by simp [rd]
                  rw [hrd] at hy
                  simp only [Int.toNat_natCast] at hy
                  cases ead4
                  have HAL : Aside0 (allTo m X xs v (i + 1) = (allTo m X xs v i && (xs.getD i 0 == (v : Int) || adjB m X (xs.getD i 0) v))) := ⟨rfl⟩
                  generalize allTo m X xs v i = al at *
                  generalize xs.getD i 0 = y at *
                  clear hrd
                  by_cases hyv : y = (v : Int)
                  · have d1 : ((y : Int) == (v : Int)) = true := by simp [hyv]
                    have d2 : ((y : Int) != (v : Int)) = false := by simp [hyv]
                    have HA2 : Aside0 (allTo m X xs v (i + 1) = al) := ⟨by rw [HAL.out, hyv]; simp⟩
                    clear HAL hyv
                    go_wp2_with fail
                    go_quiet (fail)
                    go_wp2_with fail
                    exact ⟨⟨i + 1, by go_num, by rw [HA2.out], by omega, pw_below_drewN hB3 _⟩, by simp [intOf]; omega⟩
                  · have d1 : ((y : Int) == (v : Int)) = false := by simp [hyv]
                    have d2 : ((y : Int) != (v : Int)) = true := by simp [hyv]
                    have HA2 : Aside0 (allTo m X xs v (i + 1) = (al && adjB m X y v)) := ⟨by rw [HAL.out, d1]; simp⟩
                    have HAD := HADJ.out y v
                    have x0 : wr.cell? ⟨w2.heap.size, 0, none⟩ = some (.int .i64 m) := (blk_cell (blk_below HX3.out hB3) 0).trans rfl
                    have x1 : wr.cell? ⟨w2.heap.size, 1, none⟩ = some (.slice A2 X.length k2) := (blk_cell (blk_below HX3.out hB3) 1).trans rfl
                    have KEEP : ∀ w', Below wr.heap.size wr w' → (w'.cell? ⟨w2.heap.size, 0, none⟩ = some (.int .i64 m) ∧ w'.cell? ⟨w2.heap.size, 1, none⟩ = some (.slice A2 X.length k2) ∧ w'.cell? (ad3.add k) = some (.slice (some ad4) xs.length c4) ∧ w'.cell? (ad4.add i) = some (.int .i64 y)) ∧ Aside0 (Below wr.heap.size wr w') :=
                      fun w' h => ⟨⟨pw_cell_below h x0, pw_cell_below h x1, pw_cell_below h hx, pw_cell_below h hy⟩, ⟨h⟩⟩
                    have KEEP := Aside0.mk KEEP
                    clear HAL hyv
                    cases hbb : adjB m X y v with
                    | true =>
                      rw [hbb] at HAD HA2
                      have HAD := Aside0.mk HAD
                      clear hbb
                      go_wp2_with fail
                      go_region_held3 (fun w' => (w'.cell? ⟨w2.heap.size, 0, none⟩ = some (.int .i64 m) ∧ w'.cell? ⟨w2.heap.size, 1, none⟩ = some (.slice A2 X.length k2) ∧ w'.cell? (ad3.add k) = some (.slice (some ad4) xs.length c4) ∧ w'.cell? (ad4.add i) = some (.int .i64 y)) ∧ Aside0 (Below wr.heap.size wr w')) (first
                        | exact KEEP.out _ HB5
                        | exact KEEP.out _ (Below.refl _ _).drew) (first
                        | (go_at_call 27; refine (HAD.out _ (Kd.C_below HC23.out hB3.drew)).mono ?_; rintro e w5 ⟨rfl, HB5x⟩
                           have HB5 := below_then (Below.refl wr.heap.size wr).drew (Nat.le_refl _) HB5x
                           clear HB5x))
                      go_wp2_with fail
                      exact ⟨⟨i + 1, by go_num, by rw [HA2.out, Bool.and_true], by omega, below_then hB3 hB3.size HB5⟩, by simp [intOf]; omega⟩
                    | false =>
                      rw [hbb] at HAD HA2
                      have HAD := Aside0.mk HAD
                      clear hbb
                      go_wp2_with fail
                      go_region_held3 (fun w' => (w'.cell? ⟨w2.heap.size, 0, none⟩ = some (.int .i64 m) ∧ w'.cell? ⟨w2.heap.size, 1, none⟩ = some (.slice A2 X.length k2) ∧ w'.cell? (ad3.add k) = some (.slice (some ad4) xs.length c4) ∧ w'.cell? (ad4.add i) = some (.int .i64 y)) ∧ Aside0 (Below wr.heap.size wr w')) (first
                        | exact KEEP.out _ HB5
                        | exact KEEP.out _ (Below.refl _ _).drew) (first
                        | (go_at_call 27; refine (HAD.out _ (Kd.C_below HC23.out hB3.drew)).mono ?_; rintro e w5 ⟨rfl, HB5x⟩
                           have HB5 := below_then (Below.refl wr.heap.size wr).drew (Nat.le_refl _) HB5x
                           clear HB5x))
                      go_wp2_with fail
                      exact ⟨⟨i + 1, by go_num, by rw [HA2.out, Bool.and_false], by omega, below_then hB3 hB3.size HB5⟩, by simp [intOf]; omega⟩
                · obtain rfl : i = xs.length := by omega
                  have HH := HHAS.out xs v A4 c4 wr (Kd.C_below HCx.out hB3) (by omega)
                  rw [← HMV.out] at HH
                  have HH := Aside0.mk HH
                  generalize allTo m X xs v xs.length = b at *
                  have db : (b != b) = false := by simp
                  go_wp2_with (go_at_call 26; go_must (refine HH.out.mono ?_); rintro e w5 ⟨rfl, rfl⟩)
                  exact ⟨⟨v + 1, by go_num, by omega, hB3⟩, by simp [intOf]; omega⟩
            · obtain rfl : v = m := by omega
              go_wp2_with fail
              exact ⟨⟨k + 1, by go_num, by omega, hB2⟩, by simp [intOf]; omega⟩
        · obtain rfl : k = C.length := by omega
          have HBx := Aside0.mk (below_then HBw3.out HBw3.out.size hB)
          go_wp2_with (go_at_call 12; go_must (refine (awake_any _ (T_below HT.out HBx.out)).mono ?_); rintro e w9 ⟨rfl, HB9⟩)
          go_ret
          exact ⟨by rfl, below_then HBx.out HBx.out.size HB9⟩
end Go.Proofs.YtkkfoonaobehaaaDoor.GMax
