import Derived.Test.YtkkfoonaobehaaaDoorAw
import Derived.Test.YtkkfoonaobehaaaDoorGMake
import Derived.Test.YtkkfoonaobehaaaDoorMade
import Derived.Test.YtkkfoonaobehaaaDoorComp
import Derived.Test.YtkkfoonaobehaaaDoorTr
namespace Go.Proofs.YtkkfoonaobehaaaDoor.GComp
open Go.RowKit Go.Proofs.YtkkfoonaobehaaaDoorW.PrintWords Go.Proofs.YtkkfoonaobehaaaDoor.Bits Go.Proofs.YtkkfoonaobehaaaDoor.Low Go.Proofs.YtkkfoonaobehaaaDoor.Sets Go.Proofs.YtkkfoonaobehaaaDoor.Read Go.Proofs.YtkkfoonaobehaaaDoor.Sort Go.Proofs.YtkkfoonaobehaaaDoor.Tr Go.Proofs.YtkkfoonaobehaaaDoor.Keep Go.Proofs.YtkkfoonaobehaaaDoor.Aw Go.Proofs.YtkkfoonaobehaaaDoor.Made Go.Proofs.YtkkfoonaobehaaaDoor.Comp
set_option maxHeartbeats 800000
set_option maxRecDepth 100000
set_option linter.unusedVariables false
set_option linter.unusedSimpArgs false
def tagsTo (C : List (List Int)) : Nat → List (Int × Int)
  | 0 => []
  | i + 1 => tagsTo C i ++ (C.getD i []).map fun v => (v, (i : Int) + 1)
def tagsIn (C : List (List Int)) (i k : Nat) : List (Int × Int) := tagsTo C i ++ ((C.getD i []).take k).map fun v => (v, (i : Int) + 1)
def setAll (n : Nat) (l : List (Int × Int)) : List Int := l.foldl (fun r p => r.set p.1.toNat p.2) (List.replicate n 0)
def relax (r : List Int) (e : Int × Int) : List Int := (r.set e.1.toNat (min (r.getD e.1.toNat 0) (r.getD e.2.toNat 0))).set e.2.toNat (min (r.getD e.1.toNat 0) (r.getD e.2.toNat 0))
def pass (E : List (Int × Int)) (r : List Int) : List Int := E.foldl relax r
def passes (E : List (Int × Int)) (r : List Int) : Nat → List Int
  | 0 => r
  | t + 1 => pass E (passes E r t)
def idRow (n : Nat) : List Int := (List.range n).map Int.ofNat
/-- What the walk asks of the components. -/
structure CompOK (m : Nat) (E : List (Int × Int)) (C : List (List Int)) : Prop where
  len : C.length ≤ m
  row : ∀ i, i < C.length → (C.getD i []).length ≤ 64
  inr : ∀ i, i < C.length → ∀ k, k < (C.getD i []).length → ∃ v : Nat, (C.getD i []).getD k 0 = v ∧ v < m ∧ (setAll m (tagsIn C i k)).getD v 0 = 0
  up : ∀ i, i < C.length → ∀ k, 0 < k → k < (C.getD i []).length → (C.getD i []).getD (k - 1) 0 < (C.getD i []).getD k 0
  cnt : (tagsTo C C.length).length = m
  fin : ∀ i, i < m → ∀ j, j < m → ((setAll m (tagsTo C C.length)).getD i 0 = (setAll m (tagsTo C C.length)).getD j 0 ↔ (passes E (idRow m) m).getD i 0 = (passes E (idRow m) m).getD j 0)
theorem setAll_len (n : Nat) (l : List (Int × Int)) : (setAll n l).length = n := by
  have : ∀ (l : List (Int × Int)) (r : List Int), (l.foldl (fun r p => r.set p.1.toNat p.2) r).length = r.length := by
    intro l
    induction l with
    | nil => intro r; rfl
    | cons p l ih => intro r; rw [List.foldl_cons, ih, List.length_set]
  rw [setAll, this, List.length_replicate]
theorem tagsIn_zero (C : List (List Int)) (i : Nat) : tagsIn C i 0 = tagsTo C i := by simp [tagsIn]
theorem tagsIn_full (C : List (List Int)) (i : Nat) : tagsIn C i (C.getD i []).length = tagsTo C (i + 1) := by simp [tagsIn, tagsTo]
theorem tagsIn_step (C : List (List Int)) (i k : Nat) (h : k < (C.getD i []).length) : tagsIn C i (k + 1) = tagsIn C i k ++ [((C.getD i []).getD k 0, (i : Int) + 1)] := by
  unfold tagsIn
  generalize C.getD i [] = xs at *
  rw [List.take_succ_eq_append_getElem h, List.map_append, List.append_assoc]
  simp [List.getD_eq_getElem?_getD, List.getElem?_eq_getElem h]
theorem tagsTo_len (C : List (List Int)) (h : ∀ i, i < C.length → (C.getD i []).length ≤ 64) : ∀ i, i ≤ C.length → (tagsTo C i).length ≤ 64 * i
  | 0, _ => by simp [tagsTo]
  | i + 1, hi => by
    have := tagsTo_len C h i (by omega)
    have := h i (by omega)
    rw [tagsTo, List.length_append, List.length_map]
    omega
theorem tagsIn_len (C : List (List Int)) (i k : Nat) (h : k ≤ (C.getD i []).length) : (tagsIn C i k).length = (tagsTo C i).length + k := by
  simp only [tagsIn, List.length_append, List.length_map, List.length_take]
  omega
theorem setAll_snoc (n : Nat) (l : List (Int × Int)) (p : Int × Int) : setAll n (l ++ [p]) = (setAll n l).set p.1.toNat p.2 := by simp [setAll]
theorem relax_len (r : List Int) (e : Int × Int) : (relax r e).length = r.length := by simp [relax]
theorem pass_len (E : List (Int × Int)) : ∀ r : List Int, (pass E r).length = r.length := by
  induction E with
  | nil => intro r; rfl
  | cons e E ih => intro r; rw [pass, List.foldl_cons, ← pass, ih, relax_len]
theorem passes_len (E : List (Int × Int)) (r : List Int) (t : Nat) : (passes E r t).length = r.length := by
  induction t with
  | zero => rfl
  | succ t ih => rw [passes, pass_len, ih]
theorem pass_step (E : List (Int × Int)) (r : List Int) (j : Nat) (h : j < E.length) : pass (E.take (j + 1)) r = relax (pass (E.take j) r) (E.getD j (0, 0)) := by
  rw [pass, List.take_succ_eq_append_getElem h, List.foldl_append]
  simp [pass, List.getD_eq_getElem?_getD, List.getElem?_eq_getElem h]
def idTo (m k : Nat) : List Int := (List.range m).map fun i => if i < k then (i : Int) else 0
theorem idTo_zero (m : Nat) : idTo m 0 = List.replicate m 0 := by
  apply List.ext_getElem (by simp [idTo])
  intro i h1 h2
  simp [idTo]
theorem idTo_full (m : Nat) : idTo m m = idRow m := by
  apply List.ext_getElem (by simp [idTo, idRow])
  intro i h1 h2
  simp only [idTo, List.length_map, List.length_range] at h1
  simp [idTo, idRow, h1]
theorem idTo_step (m k : Nat) (h : k < m) : (idTo m k).set k (k : Int) = idTo m (k + 1) := by
  apply List.ext_getElem (by simp [idTo])
  intro i h1 h2
  simp only [idTo, List.length_set, List.length_map, List.length_range] at h1
  rw [List.getElem_set]
  by_cases e : k = i
  · subst e; simp [idTo]
  · rw [if_neg e]
    simp only [idTo, List.getElem_map, List.getElem_range]
    by_cases q : i < k
    · rw [if_pos q, if_pos (by omega)]
    · rw [if_neg q, if_neg (by omega)]
theorem idTo_len (m k : Nat) : (idTo m k).length = m := by simp [idTo]
theorem gcomp_any (n : Int) (E : List (Int × Int)) (A : Option Addr) (c : Nat) (w : World) (hT : T w) (hE : KE.C w A E.length E)
    (hpure : ∀ (m : Nat) (G : List (Int × Int)), m ≤ 8 → okG m G = true → CompOK m G (compL m G)) :
    Calls Tryd.prog 9 #[.int .i64 n, .slice A E.length c] w fun e w' => e = .returned (.bool true) ∧ Below w.heap.size w w' := by
  have HT := Aside0.mk hT
  have HC := Aside0.mk hE
  clear hT hE
  by_cases h40 : 40 < E.length
  · have d1 : decide ((40 : Int) < (E.length : Int)) = true := by simp; omega
    go_enter Tryd.func9, Tryd.ntmps9
    go_wp2_with (first
      | (go_at_call 16; go_must (refine (made_big n E A c w h40).mono ?_); rintro e w1 ⟨rfl, HB1⟩)
      | (go_at_call 12; go_must (refine (awake_any _ (T_below HT.out (HB1.alloc HB1.size _))).mono ?_); rintro e w2 ⟨rfl, HB2⟩))
    go_ret
    exact ⟨by rfl, below_then (HB1.alloc HB1.size _) (HB1.alloc HB1.size (.cells #[.int .i64 0, .slice none 0 0] 25)).size HB2⟩
  have d40 : decide ((40 : Int) < (E.length : Int)) = false := by simp; omega
  have hmade := fun w1 h1 => made_any n E A c w1 h1 (by omega)
  have hm0 := Int.emod_nonneg n (show (9 : Int) ≠ 0 by decide)
  have hm1 := Int.emod_lt_of_pos n (show (0 : Int) < 9 by decide)
  have hok := mdG_ok n E
  have hGl : (mdG n E).length ≤ 1000000 := Go.Proofs.YtkkfoonaobehaaaDoor.GMake.mkE_len _ _
  generalize mdG n E = G at *
  generalize n % 9 = m at *
  obtain ⟨m, rfl⟩ := Int.eq_ofNat_of_zero_le hm0
  have hp := hpure m G (by omega) hok
  have hcomp := fun A1 c1 w1 h1 h2 => comp_any m G A1 c1 w1 h1 h2 (by omega) hok
  obtain ⟨C, hCe⟩ : ∃ C, C = compL m G := ⟨_, rfl⟩
  rw [← hCe] at hp hcomp
  obtain ⟨p1, p2, p3, p4, p5, p6⟩ := hp
  have HP3 := Aside0.mk p3
  have HP4 := Aside0.mk p4
  have HP5 := Aside0.mk p5
  have HP6 := Aside0.mk p6
  have HMD := Aside0.mk hmade
  have HCO := Aside0.mk hcomp
  have hok' := ((GrP.okG_iff _ _).1 hok).2.2.1
  have HOK := Aside0.mk hok'
  have hmk : ∀ W : World, (Instr.makeSlice 40 (.int .i64 (m : Int)) (.int .i64 (m : Int))).run Tryd.prog W = .ok (.slice (some ⟨W.heap.size, 0, none⟩) m m) (W.alloc (.cells (rowI (List.replicate m 0)) 3)) := by
    intro W
    rw [← rowI_zero]
    exact print_make (P := Tryd.prog) 40 3 .i64 8 Tryd.underlying40 i3 (by decide) m (by omega) W
  have HMK := Aside0.mk hmk
  clear p3 p4 p5 p6 hmade hcomp hok hok' hCe hpure hm0 h40
  go_enter Tryd.func9, Tryd.ntmps9
  go_wp2_with (first
    | (go_at_call 16; go_must (refine (HMD.out w HC.out).mono ?_); rintro e w1 ⟨v1, rfl, HO1, HB1⟩; obtain ⟨A1, c1, rfl, hc1, hC1⟩ := Kd.R_reads HO1
       have HC1 := Aside0.mk hC1
       have HBw1 : Aside0 (Below w.heap.size w w1) := ⟨HB1⟩
       clear hC1 HO1 HB1)
    | (go_at_call 30; go_must (refine (HCO.out _ _ _ (T_below HT.out (HBw1.out.alloc HBw1.out.size _)) (Kd.C_below HC1.out ((Below.refl _ _).alloc (Nat.le_refl _) _))).mono ?_); rintro e w2 ⟨v2, rfl, HO2, HB2⟩; obtain ⟨A2, c2, rfl, hc2, hC2⟩ := Kd.R_reads HO2
       have G2 := blk_below (blk_at (o := .cells #[.int .i64 m, .slice A1 G.length c1] 25) (w := w1) rfl) HB2
       have HC2 := Aside0.mk hC2
       have HG2 := Aside0.mk G2
       have HC12 : Aside0 (KE.C w2 A1 G.length G) := ⟨Kd.C_below HC1.out (below_then ((Below.refl _ _).alloc (Nat.le_refl _) _) (by simp) HB2)⟩
       have HBw2 : Aside0 (Below w.heap.size w w2) := ⟨below_then (HBw1.out.alloc HBw1.out.size _) (by have := HBw1.out.size; simp; omega) HB2⟩
       have g20 : w2.cell? ⟨w1.heap.size, 0, none⟩ = some (.int .i64 m) := (blk_cell G2 0).trans rfl
       have g21 : w2.cell? ⟨w1.heap.size, 1, none⟩ = some (.slice A1 G.length c1) := (blk_cell G2 1).trans rfl
       have hlt12 : w1.heap.size < w2.heap.size := blk_lt G2
       clear hC2 HO2 HB2 G2))
  have HST0 := Aside0.mk (blk_new w2 (.cells (rowI (List.replicate m 0)) 3))
  go_loopw [10, 11, 12, 13] (fun ct i _ _ wr => ∃ k : Nat, i = .int .i64 k ∧ k ≤ C.length ∧ ct = .int .i64 (tagsTo C k).length ∧ wr.heap[w2.heap.size]? = some (.cells (rowI (setAll m (tagsTo C k))) 3 (0, 0)) ∧ Below w2.heap.size w2 wr) (fun _ i _ _ _ => C.length - (intOf i).toNat)
  case atStart => exact ⟨0, rfl, by omega, rfl, HST0.out, (Below.refl _ _).alloc (Nat.le_refl _) _⟩
  case round =>
    obtain ⟨i, rfl, hi, rfl, hR, hB⟩ := hrel
    have hR := Aside0.mk hR
    by_cases hic : i < C.length
    · obtain ⟨ad, A3, c3, ead, hx0, hlx, hCx⟩ := elemC HC2.out i hic
      cases ead
      have hrl := p2 i hic
      have htl := tagsTo_len C p2 i (by omega)
      have H3 := Aside0.mk (HP3.out i hic)
      have H4 := Aside0.mk (HP4.out i hic)
      have HI0 := Aside0.mk (tagsIn_zero C i)
      have HI1 := Aside0.mk (tagsIn_full C i)
      have HIS := Aside0.mk (tagsIn_step C i)
      have HIL := Aside0.mk (tagsIn_len C i)
      have HX0 := Aside0.mk hx0
      have HCx := Aside0.mk hCx
      clear hx0 hCx
      generalize C.getD i [] = xs at *
      go_wp2_with fail
      obtain ⟨wo, rfl⟩ : ∃ wo : World, wo = wr := ⟨_, rfl⟩
      go_loopw [10, 12, 13] (fun ct q _ wr => ∃ k : Nat, q = .int .i64 k ∧ k ≤ xs.length ∧ ct = .int .i64 (tagsIn C i k).length ∧ wr.heap[w2.heap.size]? = some (.cells (rowI (setAll m (tagsIn C i k))) 3 (0, 0)) ∧ Below w2.heap.size w2 wr) (fun _ q _ _ => xs.length - (intOf q).toNat)
      case atStart => exact ⟨0, rfl, by omega, by rw [HI0.out], by rw [HI0.out]; exact hR.out, hB⟩
      case round =>
        obtain ⟨k, rfl, hk, rfl, hR2, hB2⟩ := hrel
        have HR2 := Aside0.mk hR2
        have hx := pw_cell_below hB2 HX0.out
        clear hR2
        by_cases hkx : k < xs.length
        · obtain ⟨v, hv, hvm, hz⟩ := H3.out k hkx
          have hup := Aside0.mk (fun h0 => H4.out k h0 hkx)
          have htk := HIL.out k (by omega)
          have HTS := Aside0.mk (HIS.out k hkx)
          have hfl := blk_frozen HR2.out v
          have hcell : wr.cell? ⟨w2.heap.size, v, none⟩ = some (.int .i64 0) := by
            rw [blk_cell HR2.out v, rowI_at _ v (by rw [setAll_len]; exact hvm), hz]
          have g0 : wr.cell? ⟨w1.heap.size, 0, none⟩ = some (.int .i64 m) := (blk_cell (blk_below HG2.out hB2) 0).trans rfl
          obtain ⟨ad2, ead2, hy⟩ := Kd.at_int (Kd.C_below HCx.out hB2) k (by omega) (by omega)
          have hrd : rd xs k = xs.getD k 0 := by simp [rd]
          rw [hrd, hv] at hy
          rw [hv] at HTS hup
          simp only [Int.toNat_natCast] at hy
          cases ead2
          have hpv : 0 < k → wr.cell? (ad2.add (k - 1)) = some (.int .i64 (xs.getD (k - 1) 0)) := by
            intro h0
            obtain ⟨ad3, ead3, hy3⟩ := Kd.at_int (Kd.C_below HCx.out hB2) (k - 1 : Nat) (by omega) (by omega)
            cases ead3
            have hrd3 : rd xs (k - 1 : Nat) = xs.getD (k - 1) 0 := by simp [rd]
            rw [hrd3] at hy3
            simpa using hy3
          have HPV := Aside0.mk hpv
          have d5 : decide ((m : Int) ≤ (v : Int)) = false := by simp; omega
          have d5n : decide (m ≤ v) = false := by simp; omega
          have HLN : Aside0 (((tagsTo C i).length + k : Nat) = (tagsIn C i k).length) := ⟨htk.symm⟩
          rw [htk]
          clear hpv hz hrd hv htk
          have hend : wr.heap[w2.heap.size]? = some (.cells (rowI (setAll m (tagsIn C i k))) 3 (0, 0)) → (wr.setCell ⟨w2.heap.size, v, none⟩ (.int .i64 ((i : Int) + 1))).heap[w2.heap.size]? = some (.cells (rowI (setAll m (tagsIn C i (k + 1)))) 3 (0, 0)) := by
            intro h
            have := blk_set h v (.int .i64 ((i : Int) + 1))
            rw [rowI_set] at this
            rw [HTS.out, setAll_snoc, Int.toNat_natCast]
            exact this
          have HEND := Aside0.mk hend
          have HLN2 : Aside0 ((((tagsTo C i).length : Int) + k + 1) = ((tagsIn C i (k + 1)).length : Int)) := ⟨by rw [HTS.out, List.length_append, ← HLN.out]; simp⟩
          clear hend
          by_cases q3 : k = 0
          · have d6 : decide ((0 : Int) < (k : Int)) = false := by simp; omega
            have d7 : decide (0 < k) = false := by simp; omega
            clear q3
            go_wp2_with fail
            exact ⟨⟨k + 1, by go_num, by omega, by rw [← HLN2.out], HEND.out HR2.out, hB2.setCell (by simp) _⟩, by simp [intOf]; omega⟩
          · have d6 : decide ((0 : Int) < (k : Int)) = true := by simp; omega
            have d7 : decide (0 < k) = true := by simp; omega
            have hpv := HPV.out (by omega)
            have hlt := hup.out (by omega)
            generalize xs.getD (k - 1) 0 = pv at *
            have hw : IntKind.i64.wrap ((k : Int) - 1) = ((k - 1 : Nat) : Int) := by rw [IntWalk.i64_in _ (by omega)]; omega
            have hw0 : (0 : Int) ≤ ((k - 1 : Nat) : Int) := by omega
            have hw1 : ((k - 1 : Nat) : Int) < (xs.length : Int) := by omega
            have d8 : decide ((v : Int) ≤ pv) = false := by simp; omega
            clear q3 hlt
            go_wp2_with fail
            exact ⟨⟨k + 1, by go_num, by omega, by rw [← HLN2.out], HEND.out HR2.out, hB2.setCell (by simp) _⟩, by simp [intOf]; omega⟩
        · obtain rfl : k = xs.length := by omega
          go_wp2_with fail
          exact ⟨⟨i + 1, by go_num, by omega, by rw [HI1.out], by rw [← HI1.out]; exact HR2.out, hB2⟩, by simp [intOf]; omega⟩
    · obtain rfl : i = C.length := by omega
      rw [HP5.out]
      have g0 : wr.cell? ⟨w1.heap.size, 0, none⟩ = some (.int .i64 m) := (blk_cell (blk_below HG2.out hB) 0).trans rfl
      have hmk := HMK.out
      go_wp2_with fail
      obtain ⟨w6, rfl⟩ : ∃ w6 : World, w6 = wr := ⟨_, rfl⟩
      have HST6 := Aside0.mk (blk_new w6 (.cells (rowI (List.replicate m 0)) 3))
      have HPR := hR
      have HB6 := Aside0.mk (below_then HBw2.out HBw2.out.size hB)
      have HG6 := Aside0.mk (blk_below HG2.out hB)
      have HC6 := Aside0.mk (Kd.C_below HC12.out hB)
      generalize hPe : setAll m (tagsTo C C.length) = PR at *
      have hPl : PR.length = m := by rw [← hPe, setAll_len]
      have HPL := Aside0.mk hPl
      clear hmk hR hPl hPe g20 g21
      go_loopw [15] (fun i wr => ∃ k : Nat, i = .int .i64 k ∧ k ≤ m ∧ wr.heap[w6.heap.size]? = some (.cells (rowI (idTo m k)) 3 (0, 0)) ∧ Below w6.heap.size w6 wr) (fun i _ => m - (intOf i).toNat)
      case atStart => exact ⟨0, rfl, by omega, by rw [idTo_zero]; exact HST6.out, (Below.refl _ _).alloc (Nat.le_refl _) _⟩
      case round =>
        obtain ⟨k, rfl, hk, hR, hB⟩ := hrel
        have HR := Aside0.mk hR
        have g0 : wr.cell? ⟨w1.heap.size, 0, none⟩ = some (.int .i64 m) := (blk_cell (blk_below HG6.out hB) 0).trans rfl
        clear hR
        by_cases hlt : k < m
        · have hfl := blk_frozen HR.out k
          have hcell : ∃ y : Int, wr.cell? ⟨w6.heap.size, k, none⟩ = some (.int .i64 y) := ⟨_, by rw [blk_cell HR.out k, rowI_at _ k (by rw [idTo_len]; exact hlt)]⟩
          obtain ⟨y, hcell⟩ := hcell
          have HND : Aside0 ((wr.setCell ⟨w6.heap.size, k, none⟩ (.int .i64 (k : Int))).heap[w6.heap.size]? = some (.cells (rowI (idTo m (k + 1))) 3 (0, 0))) := ⟨by
            have := blk_set HR.out k (.int .i64 (k : Int))
            rw [rowI_set, idTo_step m k hlt] at this
            exact this⟩
          go_wp2_with fail
          exact ⟨⟨k + 1, by go_num, by omega, HND.out, hB.setCell (by simp) _⟩, by simp [intOf]; omega⟩
        · obtain rfl : k = m := by omega
          go_wp2_with fail
          rw [idTo_full] at HR
          clear g0
          go_loopw [16, 17, 18, 19, 20] (fun i _ _ _ _ wr => ∃ t : Nat, i = .int .i64 t ∧ t ≤ k ∧ wr.heap[w6.heap.size]? = some (.cells (rowI (passes G (idRow k) t)) 3 (0, 0)) ∧ Below w6.heap.size w6 wr) (fun i _ _ _ _ _ => k - (intOf i).toNat)
          case atStart => exact ⟨0, rfl, by omega, HR.out, hB⟩
          case round =>
            obtain ⟨t, rfl, ht, hR, hB⟩ := hrel
            have HR := Aside0.mk hR
            have g0 : wr.cell? ⟨w1.heap.size, 0, none⟩ = some (.int .i64 k) := (blk_cell (blk_below HG6.out hB) 0).trans rfl
            clear hR
            by_cases hlt : t < k
            · have HPS : Aside0 (passes G (idRow k) (t + 1) = pass G (passes G (idRow k) t)) := ⟨rfl⟩
              have hrl : (passes G (idRow k) t).length = k := by rw [passes_len]; simp [idRow]
              generalize passes G (idRow k) t = r0 at *
              have HRL := Aside0.mk hrl
              clear hrl
              go_wp2_with fail
              clear g0
              obtain ⟨wo, rfl⟩ : ∃ wo : World, wo = wr := ⟨_, rfl⟩
              go_loopw [17, 18, 19, 20] (fun i _ _ _ wr => ∃ j : Nat, i = .int .i64 j ∧ j ≤ G.length ∧ wr.heap[w6.heap.size]? = some (.cells (rowI (pass (G.take j) r0)) 3 (0, 0)) ∧ Below w6.heap.size w6 wr) (fun i _ _ _ _ => G.length - (intOf i).toNat)
              case atStart => exact ⟨0, rfl, by omega, by simpa [pass] using HR.out, hB⟩
              case round =>
                obtain ⟨j, rfl, hj, hR2, hB2⟩ := hrel
                have HR2 := Aside0.mk hR2
                have g1 : wr.cell? ⟨w1.heap.size, 1, none⟩ = some (.slice A1 G.length c1) := (blk_cell (blk_below HG6.out hB2) 1).trans rfl
                clear hR2
                by_cases hjl : j < G.length
                · obtain ⟨ad, ead, ha, hb⟩ := C_pair (Kd.C_below HC6.out hB2) j hjl
                  cases ead
                  have hin : G.getD j (0, 0) ∈ G := by rw [List.getD_eq_getElem?_getD, List.getElem?_eq_getElem hjl]; exact List.getElem_mem hjl
                  have hio := HOK.out _ hin
                  have HPT := Aside0.mk (pass_step G r0 j hjl)
                  have hl2 : (pass (G.take j) r0).length = k := by rw [pass_len, HRL.out]
                  generalize G.getD j (0, 0) = e at *
                  generalize pass (G.take j) r0 = r at *
                  obtain ⟨a, b⟩ := e
                  simp only at ha hb hio
                  obtain ⟨a, rfl⟩ := Int.eq_ofNat_of_zero_le hio.1
                  obtain ⟨b, rfl⟩ := Int.eq_ofNat_of_zero_le (show 0 ≤ b by omega)
                  have hak : a < k := by omega
                  have hbk : b < k := by omega
                  have hca : wr.cell? ⟨w6.heap.size, a, none⟩ = some (.int .i64 (r.getD a 0)) := by rw [blk_cell HR2.out a, rowI_at _ a (by omega)]
                  have hcb : wr.cell? ⟨w6.heap.size, b, none⟩ = some (.int .i64 (r.getD b 0)) := by rw [blk_cell HR2.out b, rowI_at _ b (by omega)]
                  have hab : a < b := by omega
                  have HRX : Aside0 (relax r ((a : Int), (b : Int)) = (r.set a (min (r.getD a 0) (r.getD b 0))).set b (min (r.getD a 0) (r.getD b 0))) := ⟨by simp [relax]⟩
                  have hfa := blk_frozen HR2.out a
                  have hfb := blk_frozen HR2.out b
                  clear hio hin hl2
                  generalize r.getD a 0 = x at *
                  generalize r.getD b 0 = y at *
                  have HND : Aside0 (∀ q, (((wr.drewN q).setCell ⟨w6.heap.size, a, none⟩ (.int .i64 (if y < x then y else x))).setCell ⟨w6.heap.size, b, none⟩ (.int .i64 (if y < x then y else x))).heap[w6.heap.size]? = some (.cells (rowI (pass (G.take (j + 1)) r0)) 3 (0, 0))) := ⟨fun q => by
                    rw [show (if y < x then y else x) = min x y by rw [Int.min_def]; split <;> split <;> omega, HPT.out, HRX.out]
                    have := blk_set (blk_set (blk_drewN HR2.out q) a (.int .i64 (min x y))) b (.int .i64 (min x y))
                    rw [rowI_set, rowI_set] at this
                    exact this⟩
                  go_wp2_with fail
                  go_quiet (fail)
                  go_wp2_with fail
                  go_quiet (fail)
                  go_wp2_with fail
                  refine ⟨⟨j + 1, by go_num, by omega, ?_, ?_⟩, by simp [intOf]; omega⟩
                  · exact HND.out _
                  · exact ((pw_below_drewN hB2 _).setCell (by simp) _).setCell (by simp) _
                · obtain rfl : j = G.length := by omega
                  go_wp2_with fail
                  rw [List.take_length] at HR2
                  exact ⟨⟨t + 1, by go_num, by omega, by rw [HPS.out]; exact HR2.out, hB2⟩, by simp [intOf]; omega⟩
            · obtain rfl : t = k := by omega
              go_wp2_with fail
              have hRl : (passes G (idRow t) t).length = t := by rw [passes_len]; simp [idRow]
              generalize passes G (idRow t) t = RR at *
              have HRL := Aside0.mk hRl
              clear hRl g0
              go_loopw [21, 22] (fun i _ wr => ∃ k : Nat, i = .int .i64 k ∧ k ≤ t ∧ wr.heap[w6.heap.size]? = some (.cells (rowI RR) 3 (0, 0)) ∧ Below w6.heap.size w6 wr) (fun i _ _ => t - (intOf i).toNat)
              case atStart => exact ⟨0, rfl, by omega, HR.out, hB⟩
              case round =>
                obtain ⟨k, rfl, hk, hR, hB⟩ := hrel
                have HR := Aside0.mk hR
                have g0 : wr.cell? ⟨w1.heap.size, 0, none⟩ = some (.int .i64 t) := (blk_cell (blk_below HG6.out hB) 0).trans rfl
                clear hR
                by_cases hlt : k < t
                · go_wp2_with fail
                  clear g0
                  obtain ⟨wo, rfl⟩ : ∃ wo : World, wo = wr := ⟨_, rfl⟩
                  go_loopw [22] (fun j wr => ∃ q : Nat, j = .int .i64 q ∧ q ≤ t ∧ wr.heap[w6.heap.size]? = some (.cells (rowI RR) 3 (0, 0)) ∧ Below w6.heap.size w6 wr) (fun j _ => t - (intOf j).toNat)
                  case atStart => exact ⟨0, rfl, by omega, HR.out, hB⟩
                  case round =>
                    obtain ⟨q, rfl, hq, hR2, hB2⟩ := hrel
                    have HR2 := Aside0.mk hR2
                    have g0 : wr.cell? ⟨w1.heap.size, 0, none⟩ = some (.int .i64 t) := (blk_cell (blk_below HG6.out hB2) 0).trans rfl
                    clear hR2
                    by_cases hql : q < t
                    · have hc1 : wr.cell? ⟨w6.heap.size, k, none⟩ = some (.int .i64 (RR.getD k 0)) := by rw [blk_cell HR2.out k, rowI_at _ k (by rw [HRL.out]; exact hlt)]
                      have hc2 : wr.cell? ⟨w6.heap.size, q, none⟩ = some (.int .i64 (RR.getD q 0)) := by rw [blk_cell HR2.out q, rowI_at _ q (by rw [HRL.out]; exact hql)]
                      have hc3 : wr.cell? ⟨w2.heap.size, k, none⟩ = some (.int .i64 (PR.getD k 0)) := by rw [blk_cell (blk_below HPR.out hB2) k, rowI_at _ k (by rw [HPL.out]; exact hlt)]
                      have hc4 : wr.cell? ⟨w2.heap.size, q, none⟩ = some (.int .i64 (PR.getD q 0)) := by rw [blk_cell (blk_below HPR.out hB2) q, rowI_at _ q (by rw [HPL.out]; exact hql)]
                      have hfin := HP6.out k hlt q hql
                      generalize RR.getD k 0 = x1 at *
                      generalize RR.getD q 0 = x2 at *
                      generalize PR.getD k 0 = y1 at *
                      generalize PR.getD q 0 = y2 at *
                      by_cases hxy : x1 = x2
                      · have d1 : ((x1 : Int) == x2) = true := by simp [hxy]
                        have d2 : ((y1 : Int) == y2) = true := by simp [hfin.2 hxy]
                        clear hfin hxy
                        go_wp2_with fail
                        go_quiet (fail)
                        go_wp2_with fail
                        exact ⟨⟨q + 1, by go_num, by omega, blk_drewN HR2.out _, pw_below_drewN hB2 _⟩, by simp [intOf]; omega⟩
                      · have d1 : ((x1 : Int) == x2) = false := by simp [hxy]
                        have d2 : ((y1 : Int) == y2) = false := by simp; exact fun e => hxy (hfin.1 e)
                        clear hfin hxy
                        go_wp2_with fail
                        go_quiet (fail)
                        go_wp2_with fail
                        exact ⟨⟨q + 1, by go_num, by omega, blk_drewN HR2.out _, pw_below_drewN hB2 _⟩, by simp [intOf]; omega⟩
                    · obtain rfl : q = t := by omega
                      go_wp2_with fail
                      exact ⟨⟨k + 1, by go_num, by omega, HR2.out, hB2⟩, by simp [intOf]; omega⟩
                · obtain rfl : k = t := by omega
                  have HBx := Aside0.mk (below_then HB6.out HB6.out.size hB)
                  go_wp2_with (go_at_call 12; go_must (refine (awake_any _ (T_below HT.out HBx.out)).mono ?_); rintro e w9 ⟨rfl, HB9⟩)
                  go_ret
                  exact ⟨by rfl, below_then HBx.out HBx.out.size HB9⟩
end Go.Proofs.YtkkfoonaobehaaaDoor.GComp
