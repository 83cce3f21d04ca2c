import Derived.Test.YtkkfoonaobehaaaDoorAw
import Derived.Test.YtkkfoonaobehaaaDoorRTr
namespace Go.Proofs.YtkkfoonaobehaaaDoor.GTree
open Go.RowKit Go.Proofs.YtkkfoonaobehaaaDoorW.PrintWords Go.Proofs.YtkkfoonaobehaaaDoor.Bits Go.Proofs.YtkkfoonaobehaaaDoor.Low Go.Proofs.YtkkfoonaobehaaaDoor.Sets Go.Proofs.YtkkfoonaobehaaaDoor.Sort Go.Proofs.YtkkfoonaobehaaaDoor.Tr Go.Proofs.YtkkfoonaobehaaaDoor.Keep Go.Proofs.YtkkfoonaobehaaaDoor.Com Go.Proofs.YtkkfoonaobehaaaDoor.RTr Go.Proofs.YtkkfoonaobehaaaDoor.Aw
set_option maxHeartbeats 800000
set_option maxRecDepth 100000
set_option linter.unusedVariables false
theorem treeL_len (L : List (List Int)) : (treeL L).length ≤ 1000000 := by
  rw [treeL]
  split
  · rename_i h
    rw [(runT_len _ _).1, List.length_map]
    omega
  · simp
theorem gtree_any (L : List (List Int)) (A : Option Addr) (c : Nat) (w : World) (hT : T w) (hL : KS.C w A L.length L) (hn : L.length ≤ 9223372036854775807) :
    Calls Tryd.prog 5 #[.slice A L.length c] w fun e w' => e = .returned (.bool true) ∧ Below w.heap.size w w' := by
  have HT := Aside0.mk hT
  have HC := Aside0.mk hL
  have hsm := small_any L A c 80 8 w hL hn
  clear hT hL
  by_cases h1 : (decide ((L.length : Int) ≤ 80) && L.all fun l => decide ((l.length : Int) ≤ 8)) = true
  · rw [h1] at hsm
    have HS := Aside0.mk hsm
    rw [Bool.and_eq_true, decide_eq_true_eq, List.all_eq_true] at h1
    obtain ⟨h80, hall⟩ := h1
    have hs8 : ∀ i, i < L.length → (L.getD i []).length ≤ 8 := by
      intro i hi
      have := hall _ (List.getElem_mem hi)
      rw [List.getD_eq_getElem?_getD, List.getElem?_eq_getElem hi, Option.getD_some]
      simp only [decide_eq_true_eq] at this
      omega
    clear hsm hall
    by_cases h2 : 12 < (L.length : Int) ∧ (L.length : Int) < 60
    · have d1 : decide ((12 : Int) < (L.length : Int)) = true := by simp; omega
      have d2 : decide ((L.length : Int) < 60) = true := by simp; omega
      clear h2 hs8
      go_enter Tryd.func5, Tryd.ntmps5
      go_wp2_with (first
        | (go_at_call 21; go_must (refine HS.out.mono ?_); rintro e w' ⟨rfl, rfl⟩)
        | (go_at_call 12; go_must (refine (awake_any _ HT.out).mono ?_); rintro e w1 ⟨rfl, HB1⟩))
      go_ret
      exact ⟨by rfl, HB1⟩
    · have hml := treeL_len L
      have HM := tree_any L A c w HC.out (by omega) (fun i hi => by have := hs8 i hi; omega)
      have HR := fun (w1 : World) (h2 : KS.C w1 A L.length L) => rtree_any L A c w1 h2 (by omega) (fun i hi => by have := hs8 i hi; omega)
      obtain ⟨F, hF⟩ : ∃ F, F = treeL L := ⟨_, rfl⟩
      obtain ⟨q, hq⟩ : ∃ q, q = treeC L := ⟨_, rfl⟩
      rw [← hF] at HM HR hml
      rw [← hq] at HM HR
      have HM' := Aside0.mk HM
      have HR' := Aside0.mk HR
      have d3 : (q == q) = true := by simp
      clear hF hq HM HR hs8
      by_cases h3 : 12 < (L.length : Int)
      · have d1 : decide ((12 : Int) < (L.length : Int)) = true := by simp; omega
        have d2 : decide ((L.length : Int) < 60) = false := by simp; omega
        clear h2 h3
        go_enter Tryd.func5, Tryd.ntmps5
        go_wp2_with (first
          | (go_at_call 21; go_must (refine HS.out.mono ?_); rintro e w' ⟨rfl, rfl⟩)
          | (go_at_call 22; go_must (refine HM'.out.mono ?_); rintro e w1 ⟨v1, rfl, HO1, HB1⟩; obtain ⟨A1, c1, rfl, hc1, hC1⟩ := Kd.R_reads HO1
             have HC1 := Aside0.mk hC1
             have HBw1 : Aside0 (Below w.heap.size w w1) := ⟨HB1⟩
             clear hC1 HO1 HB1)
          | (go_at_call 23; go_must (refine (HR'.out _ (Kd.C_below HC.out HBw1.out)).mono ?_); rintro e w2 ⟨v2, rfl, HO2, HB2⟩; obtain ⟨A2, c2, rfl, hc2, hC2⟩ := Kd.R_reads HO2
             have HC2 := Aside0.mk hC2
             have HC12 : Aside0 (KI.C w2 A1 F.length F) := ⟨Kd.C_below HC1.out HB2⟩
             have HBw2 : Aside0 (Below w.heap.size w w2) := ⟨below_then HBw1.out HBw1.out.size HB2⟩
             clear hC2 HO2 HB2)
          | (go_at_call 24; go_must (refine (ints_any F F A1 A2 c1 c2 _ HC12.out HC2.out hml hml).mono ?_); rw [decide_eq_true (show F = F from rfl)]; rintro e w3 ⟨rfl, hd3⟩
             have HBw3 : Aside0 (Below w.heap.size w w3) := ⟨below_then HBw2.out HBw2.out.size (below_drewd hd3)⟩
             clear hd3)
          | (go_at_call 12; go_must (refine (awake_any _ (T_below HT.out HBw3.out)).mono ?_); rintro e w4 ⟨rfl, HB4⟩
             have HBw4 : Aside0 (Below w.heap.size w w4) := ⟨below_then HBw3.out HBw3.out.size HB4⟩
             clear HB4))
        go_ret
        exact ⟨by rfl, HBw4.out⟩
      · have d1 : decide ((12 : Int) < (L.length : Int)) = false := by simp; omega
        clear h2 h3
        go_enter Tryd.func5, Tryd.ntmps5
        go_wp2_with (first
          | (go_at_call 21; go_must (refine HS.out.mono ?_); rintro e w' ⟨rfl, rfl⟩)
          | (go_at_call 22; go_must (refine HM'.out.mono ?_); rintro e w1 ⟨v1, rfl, HO1, HB1⟩; obtain ⟨A1, c1, rfl, hc1, hC1⟩ := Kd.R_reads HO1
             have HC1 := Aside0.mk hC1
             have HBw1 : Aside0 (Below w.heap.size w w1) := ⟨HB1⟩
             clear hC1 HO1 HB1)
          | (go_at_call 23; go_must (refine (HR'.out _ (Kd.C_below HC.out HBw1.out)).mono ?_); rintro e w2 ⟨v2, rfl, HO2, HB2⟩; obtain ⟨A2, c2, rfl, hc2, hC2⟩ := Kd.R_reads HO2
             have HC2 := Aside0.mk hC2
             have HC12 : Aside0 (KI.C w2 A1 F.length F) := ⟨Kd.C_below HC1.out HB2⟩
             have HBw2 : Aside0 (Below w.heap.size w w2) := ⟨below_then HBw1.out HBw1.out.size HB2⟩
             clear hC2 HO2 HB2)
          | (go_at_call 24; go_must (refine (ints_any F F A1 A2 c1 c2 _ HC12.out HC2.out hml hml).mono ?_); rw [decide_eq_true (show F = F from rfl)]; rintro e w3 ⟨rfl, hd3⟩
             have HBw3 : Aside0 (Below w.heap.size w w3) := ⟨below_then HBw2.out HBw2.out.size (below_drewd hd3)⟩
             clear hd3)
          | (go_at_call 12; go_must (refine (awake_any _ (T_below HT.out HBw3.out)).mono ?_); rintro e w4 ⟨rfl, HB4⟩
             have HBw4 : Aside0 (Below w.heap.size w w4) := ⟨below_then HBw3.out HBw3.out.size HB4⟩
             clear HB4))
        go_ret
        exact ⟨by rfl, HBw4.out⟩
  · have h1' : (decide ((L.length : Int) ≤ 80) && L.all fun l => decide ((l.length : Int) ≤ 8)) = false := by simpa using h1
    rw [h1'] at hsm
    have HS := Aside0.mk hsm
    clear hsm h1 h1'
    go_enter Tryd.func5, Tryd.ntmps5
    go_wp2_with (first
      | (go_at_call 21; go_must (refine HS.out.mono ?_); rintro e w' ⟨rfl, rfl⟩)
      | (go_at_call 12; go_must (refine (awake_any _ HT.out).mono ?_); rintro e w1 ⟨rfl, HB1⟩))
    go_ret
    exact ⟨by rfl, HB1⟩
end Go.Proofs.YtkkfoonaobehaaaDoor.GTree
