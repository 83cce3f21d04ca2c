import Derived.Test.YtkkfoonaobehaaaDoorAw
namespace Go.Proofs.YtkkfoonaobehaaaDoor.GMake
open Go.RowKit Go.Proofs.YtkkfoonaobehaaaDoorW.PrintWords Go.Proofs.YtkkfoonaobehaaaDoor.Bits Go.Proofs.YtkkfoonaobehaaaDoor.Low Go.Proofs.YtkkfoonaobehaaaDoor.Sets Go.Proofs.YtkkfoonaobehaaaDoor.Read Go.Proofs.YtkkfoonaobehaaaDoor.Tr Go.Proofs.YtkkfoonaobehaaaDoor.Mk Go.Proofs.YtkkfoonaobehaaaDoor.Keep Go.Proofs.YtkkfoonaobehaaaDoor.Ref Go.Proofs.YtkkfoonaobehaaaDoor.Aw
set_option maxHeartbeats 800000
set_option maxRecDepth 100000
set_option linter.unusedVariables false
set_option linter.unusedSimpArgs false
theorem mkE_len (n : Int) (E : List (Int × Int)) : (mkE n E).length ≤ 1000000 := by
  rw [mkE]
  split
  · rename_i h
    have hn : ¬ (n < 0 ∨ 64 < n) := by
      intro q
      rw [mkC, if_pos q] at h
      cases h
    have := edgesOf_len (joins f0 E) n.toNat
    omega
  · simp
theorem gmake_any (n : Int) (E : List (Int × Int)) (A : Option Addr) (c : Nat) (w : World) (hT : T w) (hE : KE.C w A E.length E) :
    Calls Tryd.prog 3 #[.int .i64 n, .slice A E.length c] w fun e w' => e = .returned (.bool true) ∧ Below w.heap.size w w' := by
  have HT := Aside0.mk hT
  have HC := Aside0.mk hE
  clear hT hE
  by_cases h40 : 40 < E.length
  · have d1 : decide ((40 : Int) < (E.length : Int)) = true := by simp; omega
    clear h40
    go_enter Tryd.func3, Tryd.ntmps3
    go_wp2_with (go_at_call 12; go_must (refine (awake_any w HT.out).mono ?_); rintro e w1 ⟨rfl, HB1⟩)
    go_ret
    exact ⟨by rfl, HB1⟩
  · have d1 : decide ((40 : Int) < (E.length : Int)) = false := by simp; omega
    have hl : E.length ≤ 1000000 := by omega
    have hml := mkE_len n E
    have HM := fun (w : World) (h1 : T w) (h2 : KE.C w A E.length E) => make_any n E A c w h1 h2 hl
    have HR := fun (w : World) (h2 : KE.C w A E.length E) => refmake_any n E A c w h2 hl
    obtain ⟨F, hF⟩ : ∃ F, F = mkE n E := ⟨_, rfl⟩
    obtain ⟨m, hm⟩ : ∃ m, m = mkN n E := ⟨_, rfl⟩
    obtain ⟨q, hq⟩ : ∃ q, q = mkC n E := ⟨_, rfl⟩
    rw [← hF] at HM HR hml
    rw [← hm] at HM HR
    rw [← hq] at HM HR
    have HM' := Aside0.mk HM
    have HR' := Aside0.mk HR
    have d2 : (q == q) = true := by simp
    have d3 : decide (q = q) = true := by simp
    clear h40 hF hm hq HM HR
    go_enter Tryd.func3, Tryd.ntmps3
    go_wp2_with (first
      | (go_at_call 13; go_must (refine (HM'.out w HT.out HC.out).mono ?_); rintro e w1 ⟨v1, rfl, HO1, HB1⟩; obtain ⟨A1, c1, rfl, hc1, hC1⟩ := Kd.R_reads HO1
         have HC1 := Aside0.mk hC1
         have HBw1 : Aside0 (Below w.heap.size w w1) := ⟨HB1⟩
         clear hC1 HO1 HB1)
      | (go_at_call 14; go_must (refine (HR'.out _ (Kd.C_below HC.out (HBw1.out.alloc HBw1.out.size _))).mono ?_); rintro e w2 ⟨v2, rfl, HO2, HB2⟩; obtain ⟨A2, c2, rfl, hc2, hC2⟩ := Kd.R_reads HO2
         have G2 := blk_below (blk_at (o := .cells #[.int .i64 m, .slice A1 F.length c1] 25) (w := w1) rfl) HB2
         have HC2 := Aside0.mk hC2
         have HC12 : Aside0 (KE.C w2 A1 F.length F) := ⟨Kd.C_below HC1.out (below_then ((Below.refl _ _).alloc (Nat.le_refl _) _) (by simp) HB2)⟩
         have HBw2 : Aside0 (Below w.heap.size w w2) := ⟨below_then (HBw1.out.alloc HBw1.out.size _) (by have := HBw1.out.size; simp; omega) HB2⟩
         have G3 := blk_alloc G2 (.cells #[.int .i64 m, .slice A2 F.length c2] 25)
         have g20 : (w2.alloc (.cells #[.int .i64 m, .slice A2 F.length c2] 25)).cell? ⟨w1.heap.size, 0, none⟩ = some (.int .i64 m) := (blk_cell G3 0).trans rfl
         have g21 : (w2.alloc (.cells #[.int .i64 m, .slice A2 F.length c2] 25)).cell? ⟨w1.heap.size, 1, none⟩ = some (.slice A1 F.length c1) := (blk_cell G3 1).trans rfl
         clear hC2 HO2 HB2 G2 G3)
      | (go_at_call 15; go_must (refine (graphs_any m m F F A1 A2 c1 c2 _ (Kd.C_below HC12.out ((Below.refl _ _).alloc (Nat.le_refl _) _)) (Kd.C_below HC2.out ((Below.refl _ _).alloc (Nat.le_refl _) _)) hml hml).mono ?_); rw [decide_eq_true (show m = m ∧ F = F from ⟨rfl, rfl⟩)]; rintro e w3 ⟨rfl, HB3⟩
         have HBw3 : Aside0 (Below w.heap.size w w3) := ⟨below_then (HBw2.out.alloc HBw2.out.size _) (by have := HBw2.out.size; simp; omega) HB3⟩
         clear HB3 g20 g21)
      | (go_at_call 12; go_must (refine (awake_any _ (T_below HT.out HBw3.out)).mono ?_); rintro e w4 ⟨rfl, HB4⟩
         have HBw4 : Aside0 (Below w.heap.size w w4) := ⟨below_then HBw3.out HBw3.out.size HB4⟩
         clear HB4))
    go_ret
    exact ⟨by rfl, HBw4.out⟩
end Go.Proofs.YtkkfoonaobehaaaDoor.GMake
