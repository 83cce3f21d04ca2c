import Derived.Test.YtkkfoonaobehaaaDoorAw
import Derived.Test.YtkkfoonaobehaaaDoorMade
import Derived.Test.YtkkfoonaobehaaaDoorAdj
import Derived.Test.YtkkfoonaobehaaaDoorChB
import Derived.Test.YtkkfoonaobehaaaDoorGMake
namespace Go.Proofs.YtkkfoonaobehaaaDoor.GExt
open Go.RowKit Go.Proofs.YtkkfoonaobehaaaDoorW.PrintWords Go.Proofs.YtkkfoonaobehaaaDoor.Bits Go.Proofs.YtkkfoonaobehaaaDoor.Low Go.Proofs.YtkkfoonaobehaaaDoor.Sets Go.Proofs.YtkkfoonaobehaaaDoor.Read Go.Proofs.YtkkfoonaobehaaaDoor.Ext Go.Proofs.YtkkfoonaobehaaaDoor.ExtW Go.Proofs.YtkkfoonaobehaaaDoor.Chord Go.Proofs.YtkkfoonaobehaaaDoor.Keep Go.Proofs.YtkkfoonaobehaaaDoor.Val Go.Proofs.YtkkfoonaobehaaaDoor.Adj Go.Proofs.YtkkfoonaobehaaaDoor.Aw Go.Proofs.YtkkfoonaobehaaaDoor.Made Go.Proofs.YtkkfoonaobehaaaDoor.GrP Go.Proofs.YtkkfoonaobehaaaDoor.ChB
set_option maxHeartbeats 800000
set_option maxRecDepth 100000
set_option linter.unusedVariables false
set_option linter.unusedSimpArgs false
/-- What is known of the extension of a valid graph. -/
structure ExtOK (m : Nat) (G X : List (Int × Int)) : Prop where
  ok : okG m X = true
  chord : chordB m X = true
  more : ∀ e ∈ G, adjB m X e.1 e.2 = true
  len : X.length ≤ 1000000
theorem ext_facts (m : Nat) (G : List (Int × Int)) (hm : m ≤ 64) (ok : okG m G = true) : ExtOK m G (edgesOf (extF (joins f0 G) m) m) := by
  have g := okG_gr ok
  have hb := (okG_bd ok).2.2
  obtain ⟨h1, h2, h3⟩ := ext_ok hm hb g
  have hX := okG_edges (extF (joins f0 G) m) m hm (fun i j h => (h1.lt i j h).2)
  have hj := joins_edges hm h1
  refine ⟨hX, ?_, ?_, ?_⟩
  · rw [chordB, hX, hj, Int.toNat_natCast, (chord_iff hm h1).2 h3]; rfl
  · intro e he
    have hr := ((okG_iff _ _).1 ok).2.2.1 e he
    obtain ⟨a, ha⟩ := Int.eq_ofNat_of_zero_le (show 0 ≤ e.1 by omega)
    obtain ⟨b, hb'⟩ := Int.eq_ofNat_of_zero_le (show 0 ≤ e.2 by omega)
    have hab : (joins f0 G a).testBit b = true := (okG_bit ok a b).2 (.inl (by rw [← ha, ← hb']; exact he))
    rw [adjB, hX, hj, ha, hb', Int.toNat_natCast, Int.toNat_natCast, h2 a b hab]
    simp
    omega
  · have := edgesOf_len (extF (joins f0 G) m) m
    omega
theorem gext_any (n : Int) (E : List (Int × Int)) (A : Option Addr) (c : Nat) (w : World) (hT : T w) (hE : KE.C w A E.length E) :
    Calls Tryd.prog 8 #[.int .i64 n, .slice A E.length c] w fun e w' => e = .returned (.bool true) ∧ Below w.heap.size w w' := by
  have HT := Aside0.mk hT
  have HC := Aside0.mk hE
  clear hT hE
  by_cases h40 : 40 < E.length
  · have d1 : decide ((40 : Int) < (E.length : Int)) = true := by simp; omega
    go_enter Tryd.func8, Tryd.ntmps8
    go_wp2_with (first
      | (go_at_call 16; go_must (refine (made_big n E A c w h40).mono ?_); rintro e w1 ⟨rfl, HB1⟩)
      | (go_at_call 12; go_must (refine (awake_any _ (T_below HT.out (HB1.alloc HB1.size _))).mono ?_); rintro e w2 ⟨rfl, HB2⟩))
    go_ret
    exact ⟨by rfl, below_then (HB1.alloc HB1.size _) (HB1.alloc HB1.size (.cells #[.int .i64 0, .slice none 0 0] 25)).size HB2⟩
  have d40 : decide ((40 : Int) < (E.length : Int)) = false := by simp; omega
  have hmade := fun w1 h1 => made_any n E A c w1 h1 (by omega)
  have hm0 := Int.emod_nonneg n (show (9 : Int) ≠ 0 by decide)
  have hm1 := Int.emod_lt_of_pos n (show (0 : Int) < 9 by decide)
  have hok := mdG_ok n E
  have hGl : (mdG n E).length ≤ 1000000 := Go.Proofs.YtkkfoonaobehaaaDoor.GMake.mkE_len _ _
  generalize mdG n E = G at *
  generalize n % 9 = m at *
  obtain ⟨m, rfl⟩ := Int.eq_ofNat_of_zero_le hm0
  obtain ⟨x1, x2, x3, x4⟩ := ext_facts m G (by omega) hok
  have hext := fun A1 c1 w1 h1 h2 => ext_any m G A1 c1 w1 h1 h2 hGl
  rw [show extN m G = m by simp [extN, hok], show extC m G = 0 by simp [extC, hok], show extE m G = edgesOf (extF (joins f0 G) m) m by simp [extE, hok]] at hext
  generalize edgesOf (extF (joins f0 G) m) m = X at *
  have hch := fun A1 c1 w1 h1 h2 => chord_any m X A1 c1 w1 h1 h2 x4
  rw [x2, show okC m X = 0 by simp [okC, x1]] at hch
  have hva := fun A1 c1 w1 h2 => valid_any m X A1 c1 w1 h2 x4
  rw [x1] at hva
  have HMD := Aside0.mk hmade
  have HEX := Aside0.mk hext
  have HCH := Aside0.mk hch
  have HVA := Aside0.mk hva
  have HX3 := Aside0.mk x3
  clear hmade hext hch hva x1 x2 x3 hok hm0 h40
  go_enter Tryd.func8, Tryd.ntmps8
  go_wp2_with (first
    | (go_at_call 16; go_must (refine (HMD.out w HC.out).mono ?_); rintro e w1 ⟨v1, rfl, HO1, HB1⟩; obtain ⟨A1, c1, rfl, hc1, hC1⟩ := Kd.R_reads HO1
       have HC1 := Aside0.mk hC1
       have HBw1 : Aside0 (Below w.heap.size w w1) := ⟨HB1⟩
       clear hC1 HO1 HB1)
    | (go_at_call 25; go_must (refine (HEX.out _ _ _ (T_below HT.out (HBw1.out.alloc HBw1.out.size _)) (Kd.C_below HC1.out ((Below.refl _ _).alloc (Nat.le_refl _) _))).mono ?_); rintro e w2 ⟨v2, rfl, HO2, HB2⟩; obtain ⟨A2, c2, rfl, hc2, hC2⟩ := Kd.R_reads HO2
       have G2 := blk_below (blk_at (o := .cells #[.int .i64 m, .slice A1 G.length c1] 25) (w := w1) rfl) HB2
       have HC2 := Aside0.mk hC2
       have HG2 := Aside0.mk G2
       have HC12 : Aside0 (KE.C w2 A1 G.length G) := ⟨Kd.C_below HC1.out (below_then ((Below.refl _ _).alloc (Nat.le_refl _) _) (by simp) HB2)⟩
       have HBw2 : Aside0 (Below w.heap.size w w2) := ⟨below_then (HBw1.out.alloc HBw1.out.size _) (by have := HBw1.out.size; simp; omega) HB2⟩
       clear hC2 HO2 HB2 G2)
    | (go_at_call 28; go_must (refine (HCH.out _ _ _ (T_below HT.out (HBw2.out.alloc HBw2.out.size _)) (Kd.C_below HC2.out ((Below.refl _ _).alloc (Nat.le_refl _) _))).mono ?_); rintro e w3 ⟨rfl, HB3⟩
       have hw3 := HB3
       have HG3 := Aside0.mk (blk_below (blk_alloc HG2.out _) HB3)
       have HX3' := Aside0.mk (blk_below (blk_at (o := .cells #[.int .i64 m, .slice A2 X.length c2] 25) (w := w2) rfl) HB3)
       have HC13 : Aside0 (KE.C w3 A1 G.length G) := ⟨Kd.C_below HC12.out (below_then ((Below.refl _ _).alloc (Nat.le_refl _) _) (by simp) HB3)⟩
       have HC23 : Aside0 (KE.C w3 A2 X.length X) := ⟨Kd.C_below HC2.out (below_then ((Below.refl _ _).alloc (Nat.le_refl _) _) (by simp) HB3)⟩
       have HBw3 : Aside0 (Below w.heap.size w w3) := ⟨below_then (HBw2.out.alloc HBw2.out.size _) (by have := HBw2.out.size; simp; omega) HB3⟩
       have x30 : w3.cell? ⟨w2.heap.size, 0, none⟩ = some (.int .i64 m) := (blk_cell HX3'.out 0).trans rfl
       have x31 : w3.cell? ⟨w2.heap.size, 1, none⟩ = some (.slice A2 X.length c2) := (blk_cell HX3'.out 1).trans rfl
       clear hw3 HB3)
    | (go_at_call 29; go_must (refine (HVA.out _ _ _ HC23.out).mono ?_); rintro e w4 ⟨rfl, HB4⟩
       have x40 := pw_cell_below HB4 x30
       have g40 : w4.cell? ⟨w1.heap.size, 0, none⟩ = some (.int .i64 m) := (blk_cell (blk_below HG3.out HB4) 0).trans rfl
       clear x30 x31))
  clear x40 g40
  have HG4 := Aside0.mk (blk_below HG3.out HB4)
  have HX4 := Aside0.mk (blk_below HX3'.out HB4)
  have HC14 : Aside0 (KE.C w4 A1 G.length G) := ⟨Kd.C_below HC13.out HB4⟩
  have HC24 : Aside0 (KE.C w4 A2 X.length X) := ⟨Kd.C_below HC23.out HB4⟩
  have HBw4 : Aside0 (Below w.heap.size w w4) := ⟨below_then HBw3.out HBw3.out.size HB4⟩
  have HADJ := Aside0.mk (fun (i j : Int) (w1 : World) h1 => adj_any m X i j A2 c2 w1 h1 x4)
  clear HB4
  go_loopw [11] (fun i wr => ∃ k : Nat, i = .int .i64 k ∧ k ≤ G.length ∧ Below w4.heap.size w4 wr) (fun i _ => G.length - (intOf i).toNat)
  case atStart => exact ⟨0, rfl, by omega, Below.refl _ _⟩
  case round =>
    obtain ⟨k, rfl, hk, hB⟩ := hrel
    have g1 : wr.cell? ⟨w1.heap.size, 1, none⟩ = some (.slice A1 G.length c1) := (blk_cell (blk_below HG4.out hB) 1).trans rfl
    by_cases hlt : k < G.length
    · obtain ⟨ad, ead, ha, hb⟩ := C_pair (Kd.C_below HC14.out hB) k hlt
      cases ead
      have hin : G.getD k (0, 0) ∈ G := by rw [List.getD_eq_getElem?_getD, List.getElem?_eq_getElem hlt]; exact List.getElem_mem hlt
      have HA1 := Aside0.mk (HX3.out _ hin)
      generalize G.getD k (0, 0) = e at *
      obtain ⟨a, b⟩ := e
      simp only at ha hb HA1
      have HAD := HADJ.out a b
      rw [HA1.out] at HAD
      have HAD := Aside0.mk HAD
      have x0 : wr.cell? ⟨w2.heap.size, 0, none⟩ = some (.int .i64 m) := (blk_cell (blk_below HX4.out hB) 0).trans rfl
      have x1 : wr.cell? ⟨w2.heap.size, 1, none⟩ = some (.slice A2 X.length c2) := (blk_cell (blk_below HX4.out hB) 1).trans rfl
      have KEEP : ∀ w', Below wr.heap.size wr w' → (w'.cell? ⟨w1.heap.size, 1, none⟩ = some (.slice (some ad) G.length c1) ∧ w'.cell? ⟨w2.heap.size, 0, none⟩ = some (.int .i64 m) ∧ w'.cell? ⟨w2.heap.size, 1, none⟩ = some (.slice A2 X.length c2) ∧ w'.cell? (ad.add (k * 2)) = some (.int .i64 a) ∧ w'.cell? ⟨(ad.add (k * 2)).block, (ad.add (k * 2)).off + 1, none⟩ = some (.int .i64 b)) ∧ Aside0 (Below wr.heap.size wr w') :=
        fun w' h => ⟨⟨pw_cell_below h g1, pw_cell_below h x0, pw_cell_below h x1, pw_cell_below h ha, pw_cell_below h hb⟩, ⟨h⟩⟩
      have KEEP := Aside0.mk KEEP
      clear hin HA1
      go_wp2_with fail
      go_region_held3 (fun w' => (w'.cell? ⟨w1.heap.size, 1, none⟩ = some (.slice (some ad) G.length c1) ∧ w'.cell? ⟨w2.heap.size, 0, none⟩ = some (.int .i64 m) ∧ w'.cell? ⟨w2.heap.size, 1, none⟩ = some (.slice A2 X.length c2) ∧ w'.cell? (ad.add (k * 2)) = some (.int .i64 a) ∧ w'.cell? ⟨(ad.add (k * 2)).block, (ad.add (k * 2)).off + 1, none⟩ = some (.int .i64 b)) ∧ Aside0 (Below wr.heap.size wr w')) (first
        | exact KEEP.out _ HB5
        | exact KEEP.out _ (Below.refl _ _).drew) (first
        | (go_at_call 27; refine (HAD.out _ (Kd.C_below HC24.out hB.drew)).mono ?_; rintro e w5 ⟨rfl, HB5x⟩
           have HB5 := below_then (Below.refl wr.heap.size wr).drew (Nat.le_refl _) HB5x
           clear HB5x))
      go_wp2_with fail
      exact ⟨⟨k + 1, by go_num, by omega, below_then hB hB.size HB5⟩, by simp [intOf]; omega⟩
    · obtain rfl : k = G.length := by omega
      have HBx := Aside0.mk (below_then HBw4.out HBw4.out.size hB)
      go_wp2_with (go_at_call 12; go_must (refine (awake_any _ (T_below HT.out HBx.out)).mono ?_); rintro e w9 ⟨rfl, HB9⟩)
      go_ret
      exact ⟨by rfl, below_then HBx.out HBx.out.size HB9⟩
end Go.Proofs.YtkkfoonaobehaaaDoor.GExt
