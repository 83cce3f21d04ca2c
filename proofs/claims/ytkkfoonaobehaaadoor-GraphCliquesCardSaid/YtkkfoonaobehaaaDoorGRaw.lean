import Derived.Test.YtkkfoonaobehaaaDoorAw
import Derived.Test.YtkkfoonaobehaaaDoorNb
import Derived.Test.YtkkfoonaobehaaaDoorOrd
namespace Go.Proofs.YtkkfoonaobehaaaDoor.GRaw
open Go.Proofs.YtkkfoonaobehaaaDoor.ExtW Go.RowKit Go.Proofs.YtkkfoonaobehaaaDoorW.PrintWords Go.Proofs.YtkkfoonaobehaaaDoor.Bits Go.Proofs.YtkkfoonaobehaaaDoor.Low Go.Proofs.YtkkfoonaobehaaaDoor.Sets Go.Proofs.YtkkfoonaobehaaaDoor.Read Go.Proofs.YtkkfoonaobehaaaDoor.Ext Go.Proofs.YtkkfoonaobehaaaDoor.Sort Go.Proofs.YtkkfoonaobehaaaDoor.Keep Go.Proofs.YtkkfoonaobehaaaDoor.Val Go.Proofs.YtkkfoonaobehaaaDoor.Adj Go.Proofs.YtkkfoonaobehaaaDoor.RAdj Go.Proofs.YtkkfoonaobehaaaDoor.Nb Go.Proofs.YtkkfoonaobehaaaDoor.Ord Go.Proofs.YtkkfoonaobehaaaDoor.Aw Go.Proofs.YtkkfoonaobehaaaDoor.Chord
set_option maxHeartbeats 800000
set_option maxRecDepth 100000
set_option linter.unusedVariables false
set_option linter.unusedSimpArgs false
/-- The boxed graph lies at w's end, and all below is as it was. -/
def GS (n : Int) (A : Option Addr) (l c : Nat) (w w1 : World) : Prop := Below w.heap.size w w1 ∧ w1.heap[w.heap.size]? = some (.cells #[.int .i64 n, .slice A l c] 25 (0, 0))
theorem GS.start (n : Int) (A : Option Addr) (l c : Nat) (w : World) : GS n A l c w (w.alloc (.cells #[.int .i64 n, .slice A l c] 25)) := ⟨(Below.refl _ _).alloc (Nat.le_refl _) _, blk_at rfl⟩
theorem GS.call {n : Int} {A : Option Addr} {l c : Nat} {w w1 w2 : World} (h : GS n A l c w w1) (b : Below w1.heap.size w1 w2) : GS n A l c w w2 := ⟨below_then h.1 h.1.size b, blk_below h.2 b⟩
theorem GS.alloc {n : Int} {A : Option Addr} {l c : Nat} {w w1 : World} (h : GS n A l c w w1) (o : Obj) : GS n A l c w (w1.alloc o) := ⟨h.1.alloc h.1.size o, blk_alloc h.2 o⟩
theorem GS.drewN {n : Int} {A : Option Addr} {l c : Nat} {w w1 : World} (h : GS n A l c w w1) (m : Nat) : GS n A l c w (w1.drewN m) := ⟨pw_below_drewN h.1 m, blk_drewN h.2 m⟩
theorem GS.drew {n : Int} {A : Option Addr} {l c : Nat} {w w1 : World} (h : GS n A l c w w1) : GS n A l c w w1.drew := ⟨h.1.drew, h.2⟩
theorem GS.drewd {n : Int} {A : Option Addr} {l c : Nat} {w w1 w2 : World} (h : GS n A l c w w1) (hd : ∃ m, w2 = w1.drewN m) : GS n A l c w w2 := by obtain ⟨m, rfl⟩ := hd; exact h.drewN m
theorem GS.c0 {n : Int} {A : Option Addr} {l c : Nat} {w w1 : World} (h : GS n A l c w w1) : w1.cell? ⟨w.heap.size, 0, none⟩ = some (.int .i64 n) := by simpa using blk_cell h.2 0
theorem GS.c1 {n : Int} {A : Option Addr} {l c : Nat} {w w1 : World} (h : GS n A l c w w1) : w1.cell? ⟨w.heap.size, 1, none⟩ = some (.slice A l c) := by simpa using blk_cell h.2 1
theorem GS.full {n : Int} {A : Option Addr} {l c : Nat} {w w1 : World} (h : GS n A l c w w1) : (w1.cell? ⟨w.heap.size, 0, none⟩ = some (.int .i64 n) ∧ w1.cell? ⟨w.heap.size, 1, none⟩ = some (.slice A l c)) ∧ Aside0 (GS n A l c w w1) := ⟨⟨h.c0, h.c1⟩, ⟨h⟩⟩

theorem ord_bad (n : Int) (E : List (Int × Int)) (A : Option Addr) (c : Nat) (w : World) (hE : KE.C w A E.length E) (hl : E.length ≤ 1000000) (e0 : okG n E = false) :
    Calls Tryd.prog 32 #[.agg #[.int .i64 n, .slice A E.length c]] w fun e w' => ∃ A1 c1, e = .returned (.tuple #[.slice A1 0 c1, .int .i64 1]) ∧ Below w.heap.size w w' := by
  refine (ord_any n E A c w hE hl).mono ?_
  rintro e w1 ⟨v, rfl, hO, hB⟩
  rw [show ordL n E = [] by simp [ordL, e0]] at hO
  rw [show okC n E = 1 by simp [okC, e0]]
  obtain ⟨A1, c1, rfl, _, _⟩ := Kd.R_reads hO
  exact ⟨A1, c1, rfl, hB⟩
theorem ext_bad (n : Int) (E : List (Int × Int)) (A : Option Addr) (c : Nat) (w : World) (hT : T w) (hE : KE.C w A E.length E) (hl : E.length ≤ 1000000) (e0 : okG n E = false) :
    Calls Tryd.prog 25 #[.agg #[.int .i64 n, .slice A E.length c]] w fun e w' => ∃ A1 c1, e = .returned (.tuple #[.agg #[.int .i64 0, .slice A1 0 c1], .int .i64 1]) ∧ Below w.heap.size w w' := by
  refine (ext_any n E A c w hT hE hl).mono ?_
  rintro e w1 ⟨v, rfl, hO, hB⟩
  rw [show extE n E = [] by simp [extE, e0]] at hO
  rw [show extN n E = 0 by simp [extN, e0], show extC n E = 1 by simp [extC, e0]]
  obtain ⟨A1, c1, rfl, _, _⟩ := Kd.R_reads hO
  exact ⟨A1, c1, rfl, hB⟩
theorem chord_bad (n : Int) (E : List (Int × Int)) (A : Option Addr) (c : Nat) (w : World) (hT : T w) (hE : KE.C w A E.length E) (hl : E.length ≤ 1000000) (e0 : okG n E = false) :
    Calls Tryd.prog 28 #[.agg #[.int .i64 n, .slice A E.length c]] w fun e w' => e = .returned (.tuple #[.bool false, .int .i64 1]) ∧ Below w.heap.size w w' := by
  refine (chord_any n E A c w hT hE hl).mono ?_
  rintro e w1 ⟨rfl, hB⟩
  rw [show chordB n E = false by simp [chordB, e0], show okC n E = 1 by simp [okC, e0]]
  exact ⟨rfl, hB⟩
theorem nb_bad (n : Int) (E : List (Int × Int)) (i : Int) (A : Option Addr) (c : Nat) (w : World) (hT : T w) (hE : KE.C w A E.length E) (hl : E.length ≤ 1000000) (e0 : okG n E = false) :
    Calls Tryd.prog 38 #[.agg #[.int .i64 n, .slice A E.length c], .int .i64 i] w fun e w' => ∃ A1 c1, e = .returned (.slice A1 0 c1) ∧ Below w.heap.size w w' := by
  refine (nb_any n E i A c w hT hE hl).mono ?_
  rintro e w1 ⟨v, rfl, hO, hB⟩
  rw [show nbL n E i = [] by simp [nbL, e0]] at hO
  obtain ⟨A1, c1, rfl, _, _⟩ := Kd.R_reads hO
  exact ⟨A1, c1, rfl, hB⟩
theorem rnb_good (n : Int) (E : List (Int × Int)) (i : Int) (A : Option Addr) (c : Nat) (w : World) (hE : KE.C w A E.length E) (hl : E.length ≤ 1000000) (e0 : okG n E = true) :
    Calls Tryd.prog 39 #[.agg #[.int .i64 n, .slice A E.length c], .int .i64 i] w fun e w' => ∃ v, e = .returned v ∧ Kd.R KI 3 w' w.heap.size (fun _ => True) v (nbL n E i) ∧ Below w.heap.size w w' := by
  obtain ⟨hn0, hn1, _⟩ := okG_bd e0
  obtain ⟨m, rfl⟩ := Int.eq_ofNat_of_zero_le hn0
  rw [← nb_eq m E i (by omega)]
  exact rnb_any m E i A c w (by omega) hE hl
theorem nbL_len (n : Int) (E : List (Int × Int)) (i : Int) : (nbL n E i).length ≤ 1000000 := by
  rw [nbL]
  split
  · have := memI_len (joins f0 E i.toNat); omega
  · simp
theorem graw_any (n i j : Int) (E : List (Int × Int)) (A : Option Addr) (c : Nat) (w : World) (hT : T w) (hE : KE.C w A E.length E) :
    Calls Tryd.prog 11 #[.agg #[.int .i64 n, .slice A E.length c], .int .i64 i, .int .i64 j] w fun e w' => e = .returned (.bool true) ∧ Below w.heap.size w w' := by
  have HT := Aside0.mk hT
  have HC := Aside0.mk hE
  clear hT hE
  by_cases h40 : 40 < E.length
  · have d1 : decide ((40 : Int) < (E.length : Int)) = true := by simp; omega
    clear h40
    go_enter Tryd.func11, Tryd.ntmps11
    have HS0 := Aside0.mk (GS.start n A E.length c w)
    go_wp2_with (go_at_call 12; go_must (refine (awake_any _ (T_below HT.out HS0.out.1)).mono ?_); rintro e w1 ⟨rfl, HB1⟩)
    go_ret
    exact ⟨by rfl, (HS0.out.call HB1).1⟩
  have d1 : decide ((40 : Int) < (E.length : Int)) = false := by simp; omega
  have d1' : decide (E.length ≤ 40) = true := by simp; omega
  have hl : E.length ≤ 1000000 := by omega
  clear h40
  have HV := fun (w : World) (h2 : KE.C w A E.length E) => valid_any n E A c w h2 hl
  have HRV := fun (w : World) (h2 : KE.C w A E.length E) => rvalid_any n E A c w h2 hl
  have HA := fun (w : World) (h2 : KE.C w A E.length E) => adj_any n E i j A c w h2 hl
  have HRA := fun (w : World) (h2 : KE.C w A E.length E) => radj_any n E i j A c w h2 hl
  have HSM := fun (w : World) => smallg_any n E A c w
  rw [d1', Bool.and_true] at HSM
  obtain ⟨b, hb⟩ : ∃ b, b = adjB n E i j := ⟨_, rfl⟩
  rw [← hb] at HA HRA
  have db : (b == b) = true := by simp
  have db' : (b != b) = false := by simp
  clear hb d1'
  by_cases ok : okG n E = true
  · rw [ok] at HV HRV
    have HN := fun (w : World) (h1 : T w) (h2 : KE.C w A E.length E) => nb_any n E i A c w h1 h2 hl
    have HRN := fun (w : World) (h2 : KE.C w A E.length E) => rnb_good n E i A c w h2 hl ok
    have hml := nbL_len n E i
    obtain ⟨F, hF⟩ : ∃ F, F = nbL n E i := ⟨_, rfl⟩
    rw [← hF] at HN HRN hml
    have HV' := Aside0.mk HV
    have HRV' := Aside0.mk HRV
    have HA' := Aside0.mk HA
    have HRA' := Aside0.mk HRA
    have HN' := Aside0.mk HN
    have HRN' := Aside0.mk HRN
    clear HV HRV HA HRA HN HRN ok hF
    by_cases h9 : n ≤ 9
    · rw [decide_eq_true h9] at HSM
      have HSM' := Aside0.mk HSM
      clear HSM h9
      go_enter Tryd.func11, Tryd.ntmps11
      have HS0 := Aside0.mk (GS.start n A E.length c w)
      go_wp2_with (first
        | (go_at_call 35; go_must (refine (HRV'.out _ (Kd.C_below HC.out HS0.out.1)).mono ?_); rintro e w1 ⟨rfl, HB1⟩
           have HS1 := Aside0.mk (HS0.out.call HB1)
           have g0 := HS1.out.c0
           have g1 := HS1.out.c1
           clear HB1)
        | (go_at_call 36; go_must (refine (HSM'.out _).mono ?_); rintro e w2 ⟨rfl, HB2⟩
           have HS2 := Aside0.mk (HS1.out.call HB2)
           clear g0 g1 HB2
           have g0 := HS2.out.c0
           have g1 := HS2.out.c1))
      go_region_held3 (fun w' => (w'.cell? ⟨w.heap.size, 0, none⟩ = some (.int .i64 n) ∧ w'.cell? ⟨w.heap.size, 1, none⟩ = some (.slice A E.length c)) ∧ Aside0 (GS n A E.length c w w')) (first
        | exact GS.full (HS5.out)
        | exact GS.full (HS4.out)
        | exact GS.full (HS3b.out)
        | exact GS.full (HS3.out)
        | exact GS.full (HS2.out.drew)) (first
        | (go_at_call 29; refine (HV'.out _ (Kd.C_below HC.out HS2.out.drew.1)).mono ?_; rintro e w3 ⟨rfl, HB3⟩
           have HS3 := Aside0.mk (HS2.out.drew.call HB3)
           clear HB3)
        | (go_at_call 35; refine (HRV'.out _ (Kd.C_below HC.out HS3.out.1)).mono ?_; rintro e w4 ⟨rfl, HB3⟩
           have HS3b := Aside0.mk (HS3.out.call HB3)
           clear HB3)
        | (go_at_call 27; refine (HA'.out _ (Kd.C_below HC.out HS3b.out.1)).mono ?_; rintro e w5 ⟨rfl, HB3⟩
           have HS4 := Aside0.mk (HS3b.out.call HB3)
           clear HB3)
        | (go_at_call 37; refine (HRA'.out _ (Kd.C_below HC.out HS4.out.1)).mono ?_; rintro e w6 ⟨rfl, HB3⟩
           have HS5 := Aside0.mk (HS4.out.call HB3)
           clear HB3))
      clear g0 g1
      have g0 := HS5.out.c0
      have g1 := HS5.out.c1
      go_wp2_with (first
        | (go_at_call 35; go_must (refine (HRV'.out _ (Kd.C_below HC.out HS5.out.1)).mono ?_); rintro e w7 ⟨rfl, HB1⟩
           have HS6 := Aside0.mk (HS5.out.call HB1)
           clear HB1 g0 g1
           have g0 := HS6.out.c0
           have g1 := HS6.out.c1))
      go_region_held3 (fun w' => (w'.cell? ⟨w.heap.size, 0, none⟩ = some (.int .i64 n) ∧ w'.cell? ⟨w.heap.size, 1, none⟩ = some (.slice A E.length c)) ∧ Aside0 (GS n A E.length c w w')) (first
        | exact GS.full (HS10.out)
        | exact GS.full (HS9.out)
        | exact GS.full (HS8.out)
        | exact GS.full (HS7.out)
        | exact GS.full (HS6.out.drew)) (first
        | (go_at_call 38; refine (HN'.out _ (T_below HT.out HS6.out.drew.1) (Kd.C_below HC.out HS6.out.drew.1)).mono ?_; rintro e w8 ⟨v8, rfl, HO8, HB8⟩; obtain ⟨A8, c8, rfl, hc8, hC8⟩ := Kd.R_reads HO8
           have HC8 := Aside0.mk hC8
           have HS7 := Aside0.mk (HS6.out.drew.call HB8)
           clear HB8 HO8 hC8)
        | (go_at_call 39; refine (HRN'.out _ (Kd.C_below HC.out HS7.out.1)).mono ?_; rintro e w9 ⟨v9, rfl, HO9, HB9⟩; obtain ⟨A9, c9, rfl, hc9, hC9⟩ := Kd.R_reads HO9
           have HC9 := Aside0.mk hC9
           have HC89 : Aside0 (KI.C w9 A8 F.length F) := ⟨Kd.C_below HC8.out HB9⟩
           have HS8 := Aside0.mk (HS7.out.call HB9)
           clear HB9 HO9 hC9)
        | (go_at_call 24; refine (ints_any F F A8 A9 c8 c9 _ HC89.out HC9.out hml hml).mono ?_; rw [decide_eq_true (show F = F from rfl)]; rintro e w10 ⟨rfl, hd10⟩
           have HS9 := Aside0.mk (HS8.out.drewd hd10)
           clear hd10)
        | (go_at_call 12; refine (awake_any _ (T_below HT.out HS9.out.1)).mono ?_; rintro e w11 ⟨rfl, HB11⟩
           have HS10 := Aside0.mk (HS9.out.call HB11)
           clear HB11))
      go_wp2_with fail
      go_ret
      exact ⟨by rfl, HS10.out.1⟩
    · rw [decide_eq_false h9] at HSM
      have HSM' := Aside0.mk HSM
      clear HSM h9
      go_enter Tryd.func11, Tryd.ntmps11
      have HS0 := Aside0.mk (GS.start n A E.length c w)
      go_wp2_with (first
        | (go_at_call 35; go_must (refine (HRV'.out _ (Kd.C_below HC.out HS0.out.1)).mono ?_); rintro e w1 ⟨rfl, HB1⟩
           have HS1 := Aside0.mk (HS0.out.call HB1)
           have g0 := HS1.out.c0
           have g1 := HS1.out.c1
           clear HB1)
        | (go_at_call 36; go_must (refine (HSM'.out _).mono ?_); rintro e w2 ⟨rfl, HB2⟩
           have HS2 := Aside0.mk (HS1.out.call HB2)
           clear g0 g1 HB2
           have g0 := HS2.out.c0
           have g1 := HS2.out.c1)
        | (go_at_call 12; go_must (refine (awake_any _ (T_below HT.out HS2.out.1)).mono ?_); rintro e w3 ⟨rfl, HB3⟩
           have HS3 := Aside0.mk (HS2.out.call HB3)
           clear HB3))
      go_ret
      exact ⟨by rfl, HS3.out.1⟩
  · have e0 : okG n E = false := by simpa using ok
    rw [e0] at HV HRV
    have HCO := fun (w : World) (h2 : KE.C w A E.length E) => comp_bad n E A c w h2 hl e0
    have HOR := fun (w : World) (h2 : KE.C w A E.length E) => ord_bad n E A c w h2 hl e0
    have HCH := fun (w : World) (h1 : T w) (h2 : KE.C w A E.length E) => chord_bad n E A c w h1 h2 hl e0
    have HEX := fun (w : World) (h1 : T w) (h2 : KE.C w A E.length E) => ext_bad n E A c w h1 h2 hl e0
    have HCL := fun (w : World) (h2 : KE.C w A E.length E) => cliq_bad n E A c w h2 hl e0
    have HNB := fun (w : World) (h1 : T w) (h2 : KE.C w A E.length E) => nb_bad n E i A c w h1 h2 hl e0
    have HV' := Aside0.mk HV
    have HRV' := Aside0.mk HRV
    have HA' := Aside0.mk HA
    have HRA' := Aside0.mk HRA
    have HCO' := Aside0.mk HCO
    have HOR' := Aside0.mk HOR
    have HCH' := Aside0.mk HCH
    have HEX' := Aside0.mk HEX
    have HCL' := Aside0.mk HCL
    have HNB' := Aside0.mk HNB
    clear HV HRV HA HRA HCO HOR HCH HEX HCL HNB ok e0 HSM
    go_enter Tryd.func11, Tryd.ntmps11
    have HS0 := Aside0.mk (GS.start n A E.length c w)
    go_wp2_with (first
      | (go_at_call 35; go_must (refine (HRV'.out _ (Kd.C_below HC.out HS0.out.1)).mono ?_); rintro e w2 ⟨rfl, HB1⟩
         have HS2 := Aside0.mk (HS0.out.call HB1)
         have g0 := HS2.out.c0
         have g1 := HS2.out.c1
         clear HB1))
    go_region_held3 (fun w' => (w'.cell? ⟨w.heap.size, 0, none⟩ = some (.int .i64 n) ∧ w'.cell? ⟨w.heap.size, 1, none⟩ = some (.slice A E.length c)) ∧ Aside0 (GS n A E.length c w w')) (first
      | exact GS.full (HS5.out)
      | exact GS.full (HS4.out)
      | exact GS.full (HS3b.out)
      | exact GS.full (HS3.out)
      | exact GS.full (HS2.out.drew)) (first
      | (go_at_call 29; refine (HV'.out _ (Kd.C_below HC.out HS2.out.drew.1)).mono ?_; rintro e w3 ⟨rfl, HB3⟩
         have HS3 := Aside0.mk (HS2.out.drew.call HB3)
         clear HB3)
      | (go_at_call 35; refine (HRV'.out _ (Kd.C_below HC.out HS3.out.1)).mono ?_; rintro e w4 ⟨rfl, HB3⟩
         have HS3b := Aside0.mk (HS3.out.call HB3)
         clear HB3)
      | (go_at_call 27; refine (HA'.out _ (Kd.C_below HC.out HS3b.out.1)).mono ?_; rintro e w5 ⟨rfl, HB3⟩
         have HS4 := Aside0.mk (HS3b.out.call HB3)
         clear HB3)
      | (go_at_call 37; refine (HRA'.out _ (Kd.C_below HC.out HS4.out.1)).mono ?_; rintro e w6 ⟨rfl, HB3⟩
         have HS5 := Aside0.mk (HS4.out.call HB3)
         clear HB3))
    clear g0 g1
    have g0 := HS5.out.c0
    have g1 := HS5.out.c1
    go_wp2_with (first
      | (go_at_call 35; go_must (refine (HRV'.out _ (Kd.C_below HC.out HS5.out.1)).mono ?_); rintro e w7 ⟨rfl, HB1⟩
         have HS6 := Aside0.mk (HS5.out.call HB1)
         clear HB1 g0 g1
         have g0 := HS6.out.c0
         have g1 := HS6.out.c1)
      | (go_at_call 30; go_must (refine (HCO'.out _ (Kd.C_below HC.out HS6.out.1)).mono ?_); rintro e w8 ⟨rfl, HB1⟩
         have HS7 := Aside0.mk (HS6.out.call HB1)
         clear HB1 g0 g1
         have g0 := HS7.out.c0
         have g1 := HS7.out.c1)
      | (go_at_call 32; go_must (refine (HOR'.out _ (Kd.C_below HC.out HS7.out.1)).mono ?_); rintro e w9 ⟨A1, c1, rfl, HB1⟩
         have HS8 := Aside0.mk (HS7.out.call HB1)
         clear HB1 g0 g1
         have g0 := HS8.out.c0
         have g1 := HS8.out.c1)
      | (go_at_call 28; go_must (refine (HCH'.out _ (T_below HT.out HS8.out.1) (Kd.C_below HC.out HS8.out.1)).mono ?_); rintro e w10 ⟨rfl, HB1⟩
         have HS9 := Aside0.mk (HS8.out.call HB1)
         clear HB1 g0 g1
         have g0 := HS9.out.c0
         have g1 := HS9.out.c1)
      | (go_at_call 25; go_must (refine (HEX'.out _ (T_below HT.out HS9.out.1) (Kd.C_below HC.out HS9.out.1)).mono ?_); rintro e w11 ⟨A2, c2, rfl, HB1⟩
         have HS10 := Aside0.mk (HS9.out.call HB1)
         clear HB1 g0 g1
         have g0 := (HS10.out.alloc (.cells #[.int .i64 0, .slice A2 0 c2] 25)).c0
         have g1 := (HS10.out.alloc (.cells #[.int .i64 0, .slice A2 0 c2] 25)).c1)
      | (go_at_call 18; go_must (refine (HCL'.out _ (Kd.C_below HC.out (HS10.out.alloc _).1)).mono ?_); rintro e w12 ⟨rfl, HB1⟩
         have HS11 := Aside0.mk ((HS10.out.alloc _).call HB1)
         have G2 := blk_below (blk_at (o := .cells #[.int .i64 0, .slice A2 0 c2] 25) (w := w11) rfl) HB1
         clear HB1 g0 g1
         have g20 : w12.cell? ⟨w11.heap.size, 0, none⟩ = some (.int .i64 0) := by simpa using blk_cell G2 0
         have g21 : w12.cell? ⟨w11.heap.size, 1, none⟩ = some (.slice A2 0 c2) := by simpa using blk_cell G2 1
         clear G2
         have g0 := HS11.out.c0
         have g1 := HS11.out.c1)
      | (go_at_call 38; go_must (refine (HNB'.out _ (T_below HT.out HS11.out.1) (Kd.C_below HC.out HS11.out.1)).mono ?_); rintro e w13 ⟨A3, c3, rfl, HB1⟩
         have HS12 := Aside0.mk (HS11.out.call HB1)
         clear HB1 g0 g1 g20 g21)
      | (go_at_call 12; go_must (refine (awake_any _ (T_below HT.out HS12.out.1)).mono ?_); rintro e w14 ⟨rfl, HB1⟩
         have HS13 := Aside0.mk (HS12.out.call HB1)
         clear HB1))
    go_ret
    exact ⟨by rfl, HS13.out.1⟩
end Go.Proofs.YtkkfoonaobehaaaDoor.GRaw
