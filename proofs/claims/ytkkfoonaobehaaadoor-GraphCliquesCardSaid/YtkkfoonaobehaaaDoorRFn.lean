import Derived.Test.YtkkfoonaobehaaaDoorFill
import Derived.Test.YtkkfoonaobehaaaDoorChE
import Derived.Test.YtkkfoonaobehaaaDoorGRaw
namespace Go.Proofs.YtkkfoonaobehaaaDoor.RFn
open Go.RowKit Go.Proofs.YtkkfoonaobehaaaDoorW.PrintWords Go.Proofs.YtkkfoonaobehaaaDoor.Bits Go.Proofs.YtkkfoonaobehaaaDoor.Low Go.Proofs.YtkkfoonaobehaaaDoor.Sets Go.Proofs.YtkkfoonaobehaaaDoor.Read Go.Proofs.YtkkfoonaobehaaaDoor.Search Go.Proofs.YtkkfoonaobehaaaDoor.Earl Go.Proofs.YtkkfoonaobehaaaDoor.Ext Go.Proofs.YtkkfoonaobehaaaDoor.ExtW Go.Proofs.YtkkfoonaobehaaaDoor.Chord Go.Proofs.YtkkfoonaobehaaaDoor.Sort Go.Proofs.YtkkfoonaobehaaaDoor.Ref Go.Proofs.YtkkfoonaobehaaaDoor.Val Go.Proofs.YtkkfoonaobehaaaDoor.Rd Go.Proofs.YtkkfoonaobehaaaDoor.RAdj Go.Proofs.YtkkfoonaobehaaaDoor.Ord Go.Proofs.YtkkfoonaobehaaaDoor.Comp Go.Proofs.YtkkfoonaobehaaaDoor.GrP Go.Proofs.YtkkfoonaobehaaaDoor.Parts Go.Proofs.YtkkfoonaobehaaaDoor.RSea Go.Proofs.YtkkfoonaobehaaaDoor.Tri Go.Proofs.YtkkfoonaobehaaaDoor.Fill Go.Proofs.YtkkfoonaobehaaaDoor.GRaw
set_option maxHeartbeats 800000
set_option maxRecDepth 100000
set_option linter.unusedVariables false
set_option linter.unusedSimpArgs false
section
variable (m : Nat) (E : List (Int × Int)) (A : Option Addr) (c : Nat) (w : World)
theorem rcomp_any (hE : KE.C w A E.length E) (hl : E.length ≤ 1000000) (ok : okG m E = true) :
    Calls Tryd.prog 31 #[.agg #[.int .i64 m, .slice A E.length c]] w fun e w' => ∃ v, e = .returned (.tuple #[v, .int .i64 0]) ∧ KS.R 40 w' w.heap.size (fun _ => True) v (compL m E) ∧ Below w.heap.size w w' := by
  have HC := Aside0.mk hE
  have hm : m ≤ 64 := by have := (okG_bd ok).2.1; omega
  have hgr := okG_gr ok
  have hrv := fun (w : World) (h : KE.C w A E.length E) => rvalid_any m E A c w h hl
  rw [ok] at hrv
  have hrr := fun (w : World) (h : KE.C w A E.length E) => rread_any m E A c w hm h hl (okG_in m E ok)
  have hpa := fun (g cc : Nat) (w : World) (h : Ref.Mat w g m (joins f0 E)) => parts_any (joins f0 E) m g cc w hm hgr h
  have hcl : compL m E = (compTo (joins f0 E) m).2 := by simp [compL, ok]
  rw [hcl]
  have HRV := Aside0.mk hrv
  have HRR := Aside0.mk hrr
  have HPA := Aside0.mk hpa
  clear hrv hrr hpa hE hcl hgr
  go_enter Tryd.func31, Tryd.ntmps31
  have HS0 := Aside0.mk (GS.start m A E.length c w)
  go_wp2_with (first
    | (go_at_call 35; go_must (refine (HRV.out _ (Kd.C_below HC.out HS0.out.1)).mono ?_); rintro e w1 ⟨rfl, HB1⟩
       have HS1 := Aside0.mk (HS0.out.call HB1)
       have g0 := HS1.out.c0
       have g1 := HS1.out.c1
       clear HB1)
    | (go_at_call 46; go_must (refine (HRR.out _ (Kd.C_below HC.out HS1.out.1)).mono ?_); rintro e w2 ⟨g, rfl, hgl, HM, HB2⟩
       have HS2 := Aside0.mk (HS1.out.call HB2)
       clear g0 g1 HB2)
    | (go_at_call 57; go_must (refine (HPA.out _ _ _ HM).mono ?_); rintro e w3 ⟨v, rfl, HO, HB3⟩))
  go_ret2
  exact ⟨_, rfl, Kd.R_lower HO HS2.out.1.size, (HS2.out.call HB3).1⟩
theorem rord_any (hE : KE.C w A E.length E) (hl : E.length ≤ 1000000) (ok : okG m E = true) :
    Calls Tryd.prog 33 #[.agg #[.int .i64 m, .slice A E.length c]] w fun e w' => ∃ v, e = .returned (.tuple #[v, .int .i64 0]) ∧ KI.R 3 w' w.heap.size (fun _ => True) v (ordL m E) ∧ Below w.heap.size w w' := by
  have HC := Aside0.mk hE
  have hm : m ≤ 64 := by have := (okG_bd ok).2.1; omega
  have hrv := fun (w : World) (h : KE.C w A E.length E) => rvalid_any m E A c w h hl
  rw [ok] at hrv
  have hrr := fun (w : World) (h : KE.C w A E.length E) => rread_any m E A c w hm h hl (okG_in m E ok)
  have hpa := fun (g cc : Nat) (w : World) (h : Ref.Mat w g m (joins f0 E)) => rsearch_any (joins f0 E) m g cc w hm h
  have hcl : ordL m E = natsI (searchL (joins f0 E) m) := by simp [ordL, ok, natsI]
  rw [hcl]
  have HRV := Aside0.mk hrv
  have HRR := Aside0.mk hrr
  have HPA := Aside0.mk hpa
  clear hrv hrr hpa hE hcl
  go_enter Tryd.func33, Tryd.ntmps33
  have HS0 := Aside0.mk (GS.start m A E.length c w)
  go_wp2_with (first
    | (go_at_call 35; go_must (refine (HRV.out _ (Kd.C_below HC.out HS0.out.1)).mono ?_); rintro e w1 ⟨rfl, HB1⟩
       have HS1 := Aside0.mk (HS0.out.call HB1)
       have g0 := HS1.out.c0
       have g1 := HS1.out.c1
       clear HB1)
    | (go_at_call 46; go_must (refine (HRR.out _ (Kd.C_below HC.out HS1.out.1)).mono ?_); rintro e w2 ⟨g, rfl, hgl, HM, HB2⟩
       have HS2 := Aside0.mk (HS1.out.call HB2)
       clear g0 g1 HB2)
    | (go_at_call 58; go_must (refine (HPA.out _ _ _ HM).mono ?_); rintro e w3 ⟨v, rfl, HO, HB3⟩))
  go_ret2
  exact ⟨_, rfl, Kd.R_lower HO HS2.out.1.size, (HS2.out.call HB3).1⟩
theorem rchord_any (hE : KE.C w A E.length E) (hl : E.length ≤ 1000000) (ok : okG m E = true) :
    Calls Tryd.prog 34 #[.agg #[.int .i64 m, .slice A E.length c]] w fun e w' => e = .returned (.tuple #[.bool (chordB m E), .int .i64 0]) ∧ Below w.heap.size w w' := by
  have HC := Aside0.mk hE
  have hm : m ≤ 64 := by have := (okG_bd ok).2.1; omega
  have hgr := okG_gr ok
  have hrv := fun (w : World) (h : KE.C w A E.length E) => rvalid_any m E A c w h hl
  rw [ok] at hrv
  have hrr := fun (w : World) (h : KE.C w A E.length E) => rread_any m E A c w hm h hl (okG_in m E ok)
  have hpa := fun (g cc : Nat) (w : World) (h : Ref.Mat w g m (joins f0 E)) => tri_any (joins f0 E) m g cc w hm h
  have hcl : chordB m E = triT (joins f0 E) m m 0 := by rw [ChE.tri_eq hm hgr]; simp [chordB, ok]
  rw [hcl]
  generalize triT (joins f0 E) m m 0 = b at *
  have HRV := Aside0.mk hrv
  have HRR := Aside0.mk hrr
  have HPA := Aside0.mk hpa
  clear hrv hrr hpa hE hcl
  go_enter Tryd.func34, Tryd.ntmps34
  have HS0 := Aside0.mk (GS.start m A E.length c w)
  go_wp2_with (first
    | (go_at_call 35; go_must (refine (HRV.out _ (Kd.C_below HC.out HS0.out.1)).mono ?_); rintro e w1 ⟨rfl, HB1⟩
       have HS1 := Aside0.mk (HS0.out.call HB1)
       have g0 := HS1.out.c0
       have g1 := HS1.out.c1
       clear HB1)
    | (go_at_call 46; go_must (refine (HRR.out _ (Kd.C_below HC.out HS1.out.1)).mono ?_); rintro e w2 ⟨g, rfl, hgl, HM, HB2⟩
       have HS2 := Aside0.mk (HS1.out.call HB2)
       clear g0 g1 HB2)
    | (go_at_call 53; go_must (refine (HPA.out _ _ _ HM).mono ?_); rintro e w3 ⟨rfl, HB3⟩))
  go_ret2
  exact ⟨rfl, (HS2.out.call HB3).1⟩
theorem rext_any (hE : KE.C w A E.length E) (hl : E.length ≤ 1000000) (ok : okG m E = true) :
    Calls Tryd.prog 17 #[.agg #[.int .i64 m, .slice A E.length c]] w fun e w' => ∃ v, e = .returned (.tuple #[.agg #[.int .i64 m, v], .int .i64 0]) ∧ Kd.R KE 46 w' w.heap.size (fun _ => True) v (extE m E) ∧ Below w.heap.size w w' := by
  have HC := Aside0.mk hE
  have hm : m ≤ 64 := by have := (okG_bd ok).2.1; omega
  have hgr := okG_gr ok
  have hbd := (okG_bd ok).2.2
  have hrv := fun (w : World) (h : KE.C w A E.length E) => rvalid_any m E A c w h hl
  rw [ok] at hrv
  have hrr := fun (w : World) (h : KE.C w A E.length E) => rread_any m E A c w hm h hl (okG_in m E ok)
  have hpa := fun (g cc : Nat) (w : World) (h : Ref.Mat w g m (joins f0 E)) => fill_any (joins f0 E) m g cc w hm hgr hbd h
  have hge := (ChB.ext_ok hm hbd hgr).1
  have hwr := fun (g cc : Nat) (w : World) (h : Ref.Mat w g m (extF (joins f0 E) m)) => write_any (extF (joins f0 E) m) m g cc w hm h
  have hcl : extE m E = edgesW (extF (joins f0 E) m) m m := by
    rw [edges_eq _ m hm (fun i j hj => by
      cases e : (extF (joins f0 E) m i).testBit j
      · rfl
      · have := (hge.lt i j e).2; omega)]
    simp [extE, ok]
  rw [hcl]
  have HRV := Aside0.mk hrv
  have HRR := Aside0.mk hrr
  have HPA := Aside0.mk hpa
  have HWR := Aside0.mk hwr
  clear hrv hrr hpa hwr hE hcl hge hbd hgr
  go_enter Tryd.func17, Tryd.ntmps17
  have HS0 := Aside0.mk ((GS.start m A E.length c w).alloc (.cells #[.int .i64 0, .slice none 0 0] 25))
  have HZ0 : Aside0 (((w.alloc (.cells #[.int .i64 m, .slice A E.length c] 25)).alloc (.cells #[.int .i64 0, .slice none 0 0] 25)).heap[w.heap.size + 1]? = some (.cells #[.int .i64 0, .slice none 0 0] 25 (0, 0))) := ⟨blk_at (by simp)⟩
  go_wp2_with (first
    | (go_at_call 35; go_must (refine (HRV.out _ (Kd.C_below HC.out HS0.out.1)).mono ?_); rintro e w1 ⟨rfl, HB1⟩
       have HS1 := Aside0.mk (HS0.out.call HB1)
       have HZ1 := Aside0.mk (blk_below HZ0.out HB1)
       have g0 := HS1.out.c0
       have g1 := HS1.out.c1
       clear HB1)
    | (go_at_call 46; go_must (refine (HRR.out _ (Kd.C_below HC.out HS1.out.1)).mono ?_); rintro e w2 ⟨g, rfl, hgl, HM, HB2⟩
       have HS2 := Aside0.mk (HS1.out.call HB2)
       have HZ2 := Aside0.mk (blk_below HZ1.out HB2)
       clear g0 g1 HB2)
    | (go_at_call 45; go_must (refine (HPA.out _ _ _ HM).mono ?_); rintro e w3 ⟨rfl, HM3, HB3⟩
       have HS3 := Aside0.mk (HS2.out.call HB3)
       have HZ3 := Aside0.mk (blk_below HZ2.out HB3)
       clear HB3)
    | (go_at_call 43; go_must (refine (HWR.out _ _ _ HM3).mono ?_); rintro e w4 ⟨v, rfl, HO, HB4⟩; obtain ⟨A4, c4, rfl, hc4, hC4⟩ := Kd.R_reads HO
       have HS4 := Aside0.mk (HS3.out.call HB4)
       have hz4 := blk_below HZ3.out HB4
       have z0 : w4.cell? ⟨w.heap.size + 1, 0, none⟩ = some (.int .i64 0) := (blk_cell hz4 0).trans rfl
       have z1 : w4.cell? ⟨w.heap.size + 1, 1, none⟩ = some (.slice none 0 0) := (blk_cell hz4 1).trans rfl
       have zf0 := blk_frozen hz4 0
       have zf1 := blk_frozen hz4 1
       have HZ4 := Aside0.mk hz4
       clear hz4 HB4 hC4))
  generalize edgesW (extF (joins f0 E) m) m m = F at *
  have H8 := blk_set (blk_set HZ4.out 0 (.int .i64 m)) 1 (.slice A4 F.length c4)
  refine bodyPost_ret (results_ct rfl _ _ (w.heap.size + 1) 25 #[.int .i64 m, .slice A4 F.length c4] (0, 0) _ (by simp) (by simpa using H8) Tryd.underlying25 rfl (by kernel_rfl)) rfl ?_
  refine ⟨_, rfl, ?_, (HS4.out.1.setCell (by simp) _).setCell (by simp) _⟩
  exact Kd.R_set (Kd.R_set (Kd.R_lower HO HS3.out.1.size) HZ4.out (by decide) 0 _) (blk_set HZ4.out 0 _) (by decide) 1 _
end
end Go.Proofs.YtkkfoonaobehaaaDoor.RFn
