import Derived.Test.YtkkfoonaobehaaaDoorExtW
namespace Go.Proofs.YtkkfoonaobehaaaDoor.Chord
open Go.RowKit Go.Proofs.YtkkfoonaobehaaaDoorW.PrintWords Go.Proofs.YtkkfoonaobehaaaDoor.Bits Go.Proofs.YtkkfoonaobehaaaDoor.Low Go.Proofs.YtkkfoonaobehaaaDoor.Sets Go.Proofs.YtkkfoonaobehaaaDoor.Read Go.Proofs.YtkkfoonaobehaaaDoor.Search Go.Proofs.YtkkfoonaobehaaaDoor.Earl Go.Proofs.YtkkfoonaobehaaaDoor.Ext
open Go.Proofs.YtkkfoonaobehaaaDoor.Kit (store_row R_grownB)
set_option maxHeartbeats 800000
set_option maxRecDepth 100000
set_option linter.unusedVariables false
set_option linter.unusedSimpArgs false

theorem searchL_inv (f : Nat → Nat) (n : Nat) : (searchL f n).length = n ∧ (∀ i ∈ searchL f n, i < n) ∧ (searchL f n).Nodup := by
  obtain ⟨h1, _, h3, h4⟩ := runS_inv f n n (Nat.le_refl _)
  exact ⟨h1, h3, h4⟩
def chordB (n : Int) (E : List (Int × Int)) : Bool := okG n E && (earl (joins f0 E) (searchL (joins f0 E) n.toNat) 0 []).isSome
def okC (n : Int) (E : List (Int × Int)) : Int := if okG n E then 0 else 1

theorem range_row {w : World} {g : Nat} {cs : Array Value} {t : TypeId} (h : w.heap[g]? = some (.cells cs t (0, 0))) : w.rangeAt g 0 cs.toList := fun j v hv => by
  rw [Nat.zero_add, blk_cell h]
  simpa using hv
theorem setsV_len (f : Nat → Nat) : (setsV f).toList.length = 64 := by simp [setsV]

theorem chord_any (n : Int) (E : List (Int × Int)) (A : Option Addr) (c : Nat) (w : World) (hT : T w) (hE : KE.C w A E.length E) (hl : E.length ≤ 1000000) :
    Calls Tryd.prog 28 #[.agg #[.int .i64 n, .slice A E.length c]] w fun e w' => e = .returned (.tuple #[.bool (chordB n E), .int .i64 (okC n E)]) ∧ Below w.heap.size w w' := by
  have HT := Aside0.mk hT
  have HC := Aside0.mk hE
  clear hT hE
  by_cases ok : okG n E = true
  · obtain ⟨hn0, hn1, hbd⟩ := okG_bd ok
    obtain ⟨m, rfl⟩ := Int.eq_ofNat_of_zero_le hn0
    have e1 : chordB m E = (earl (joins f0 E) (searchL (joins f0 E) m) 0 []).isSome := by simp [chordB, ok]
    have e3 : okC m E = 0 := by simp [okC, ok]
    have hread := read_any (m : Int) E A c
    rw [ok] at hread
    rw [e1, e3]
    have HR := Aside0.mk hread
    clear e1 e3 ok hread
    generalize joins f0 E = f at *
    go_enter Tryd.func28, Tryd.ntmps28
    go_wp2_with (first
      | (go_at_call 47; go_must (refine (HR.out _ (Kd.C_below HC.out ((Below.refl _ _).alloc (Nat.le_refl _) _)) hl).mono ?_); rintro e w1 ⟨s, rfl, hs, HB1⟩; obtain rfl : s = f := hs rfl)
      | (with_reducible refine gate_ (.store 55 (.tmp 4) (.tmp 11)) rfl ?_; go_must (refine store_row rfl 55 (.tmp 4) (.tmp 11) rfl w1.heap.size 55 (setsV f0) (setsV s) (by simp [Act.eval]) (by simp [Act.eval]) (blk_at rfl) rfl (by kernel_rfl) (setsV_one s) ?_)
         intro w2 hw2 hg2
         obtain ⟨B, hB⟩ : ∃ B, B = w1.heap.size := ⟨_, rfl⟩
         have hs2 : w.heap.size < B := by have := HB1.size; simp at this; omega
         have HBw : Below w.heap.size w w1 := below_then ((Below.refl _ _).alloc (Nat.le_refl _) _) (by simp) HB1
         have HB2 : Below w.heap.size w w2 := (HBw.alloc HBw.size _).grown hg2 (by have := HBw.size; simp; omega) (fun q hq => by injection hq with hq; have := HBw.size; omega)
         have HG2 := blk_grown (blk_alloc (blk_below (blk_new w (.cells #[.int .i64 m, .slice A E.length c] 25)) HB1) _) hg2 (fun e => by injection e with e; omega)
         have g0 : w2.cell? ⟨w.heap.size, 0, none⟩ = some (.int .i64 m) := by simpa using blk_cell HG2 0
         rw [← hB] at hw2
         rw [← hB]
         have HWs := Aside0.mk hw2
         have HG := Aside0.mk HG2
         clear hw2 hg2 HG2 hB HB1 HR HBw hs))
    obtain ⟨s1, s2, s3⟩ := searchL_inv s m
    obtain ⟨cs, hcs⟩ : ∃ cs, cs = (setsV s).toList := ⟨_, rfl⟩
    have hu := Tryd.underlying55
    have hlen : cs.length = 64 := by rw [hcs, setsV_len]
    have hi : (Tryd.prog.info? 55).map (·.size) = some cs.length := by rw [hlen]; kernel_rfl
    have hone : ∀ v ∈ cs, v.oneCell' = true := fun v hv => setsV_one s v (by simpa [hcs] using hv)
    have k1 : w2.rangeAt B 0 cs := by rw [hcs]; exact range_row HWs.out
    have HCS : Aside0 (cs.toArray = setsV s) := ⟨by rw [hcs]⟩
    clear hcs
    refine wp_region_held_drew (S := fun w' => w'.rangeAt B 0 cs ∧ w'.cell? ⟨w.heap.size, 0, none⟩ = some (.int .i64 m)) (by kernel_rfl) ?_ (fun hHeld => ?_)
    · exact ⟨k1, g0⟩
    refine wpAnyH_take (i := 0) (v := .agg cs.toArray) rfl (by kernel_rfl) (by kernel_rfl) (by kernel_rfl) (fun _ _ _ h => h) (yieldsIf_load_mid (by rfl) 55 (.tmp 4) rfl B 0 (by simp [Act.eval]) cs _ (fun w h => h.1) hu rfl hi) hHeld ?_
    simp only [Act.put, List.setIfInBounds_toArray, List.set_cons_zero, List.set_cons_succ]
    refine wpAnyH_take (i := 1) (v := .agg cs.toArray) rfl (by kernel_rfl) (by kernel_rfl) (by kernel_rfl) (fun _ _ _ h => h) (yieldsIf_load_mid (by rfl) 55 (.tmp 4) rfl B 0 (by simp [Act.eval]) cs _ (fun w h => h.1) hu rfl hi) hHeld ?_
    simp only [Act.put, List.setIfInBounds_toArray, List.set_cons_zero, List.set_cons_succ]
    refine wpAnyH_take (i := 2) (v := .pointer (some ⟨w.heap.size, 0, none⟩)) rfl (by kernel_rfl) (by kernel_rfl) (by kernel_rfl) (fun _ _ _ h => h) (Or.inl ⟨by rfl, fun w' hSw => by go_simp⟩) hHeld ?_
    simp only [Act.put, List.setIfInBounds_toArray, List.set_cons_zero, List.set_cons_succ]
    refine wpAnyH_take (i := 3) (v := .int .i64 m) rfl (by kernel_rfl) (by kernel_rfl) (by kernel_rfl) (fun _ _ _ h => h) (Or.inl ⟨by rfl, fun w' hSw => by obtain ⟨_, hSw⟩ := hSw; go_simp⟩) hHeld ?_
    simp only [Act.put, List.setIfInBounds_toArray, List.set_cons_zero, List.set_cons_succ]
    refine wpAnyH_ready (rs := [4]) (by kernel_rfl) (by simp) ?_
    refine AllReadyH.cons rfl (fun K hK => ?_) ?_
    · go_simp
      rw [HCS.out]
      refine (search_any s hbd m (by omega) _).mono ?_
      rintro e w3 ⟨u, rfl, HU, HB3⟩
      obtain ⟨A3, c3, rfl, hc3, hC3⟩ := Kd.R_reads HU
      have hlen3 : (natsI (searchL s m)).length = m := by simp [natsI, s1]
      have hE := earl_any s hbd (searchL s m) (fun v hv => by have := s2 v hv; omega) A3 c3 w3
      rw [hlen3] at hE
      have hC3' : KI.C w3 A3 m (natsI (searchL s m)) := by have := hC3; rw [show (List.map Int.ofNat (searchL s m)).length = m from hlen3] at this; exact this
      have HB4 := below_then HB2.drew HB2.size HB3
      have HF3 := blk_below (w := w2.drew) HWs.out HB3
      have HG3 := blk_below (w := w2.drew) HG.out HB3
      simp only []
      refine hK.out _ _ ?_ (fun hHeld => ?_)
      · refine ⟨?_, by simpa using blk_cell HG3 0⟩
        have := range_row HF3
        rw [← HCS.out] at this
        simpa using this
      clear hK K
      refine wpAnyH_ready (rs := [5]) (by kernel_rfl) (by simp) ?_
      refine AllReadyH.cons rfl (fun K hK => ?_) ?_
      · go_simp
        go_must (refine (hE (T_below HT.out HB4) hC3' (by omega)).mono ?_)
        rintro e w5 ⟨u5, rfl, HU5, HB5⟩
        simp only []
        refine hK.out _ _ ?_ (fun hHeld => ?_)
        · refine ⟨?_, by simpa using blk_cell (blk_below HG3 HB5) 0⟩
          have := range_row (blk_below HF3 HB5)
          rw [← HCS.out] at this
          simpa using this
        clear hK K
        refine wpAnyH_take (i := 6) (v := .tuple #[u5, .bool (earl s (searchL s m) 0 []).isSome]) rfl (by kernel_rfl) (by kernel_rfl) (by kernel_rfl) (fun _ _ _ h => h) (Or.inl ⟨by rfl, fun w' hSw => by go_simp⟩) hHeld ?_
        simp only [Act.put, List.setIfInBounds_toArray, List.set_cons_zero, List.set_cons_succ]
        refine wpAnyH_take (i := 7) (v := u5) rfl (by kernel_rfl) (by kernel_rfl) (by kernel_rfl) (fun _ _ _ h => h) (Or.inl ⟨by rfl, fun w' hSw => by go_simp⟩) hHeld ?_
        simp only [Act.put, List.setIfInBounds_toArray, List.set_cons_zero, List.set_cons_succ]
        refine wpAnyH_take (i := 8) (v := .bool (earl s (searchL s m) 0 []).isSome) rfl (by kernel_rfl) (by kernel_rfl) (by kernel_rfl) (fun _ _ _ h => h) (Or.inl ⟨by rfl, fun w' hSw => by go_simp⟩) hHeld ?_
        simp only [Act.put, List.setIfInBounds_toArray, List.set_cons_zero, List.set_cons_succ]
        refine wpAnyH_take (i := 9) (v := u5) rfl (by kernel_rfl) (by kernel_rfl) (by kernel_rfl) (fun _ _ _ h => h) (Or.inl ⟨by rfl, fun w' hSw => by go_simp⟩) hHeld ?_
        simp only [Act.put, List.setIfInBounds_toArray, List.set_cons_zero, List.set_cons_succ]
        refine wpAnyH_take (i := 10) (v := .bool (earl s (searchL s m) 0 []).isSome) rfl (by kernel_rfl) (by kernel_rfl) (by kernel_rfl) (fun _ _ _ h => h) (Or.inl ⟨by rfl, fun w' hSw => by go_simp⟩) hHeld ?_
        simp only [Act.put, List.setIfInBounds_toArray, List.set_cons_zero, List.set_cons_succ]
        refine wpAnyH_done (by kernel_rfl) ?_ _
        go_wp2_with fail
        go_ret2
        exact ⟨rfl, below_then HB4 HB4.size HB5⟩
      · exact AllReadyH.nil
    · exact AllReadyH.nil
  · have e0 : okG n E = false := by simpa using ok
    have e1 : chordB n E = false := by simp [chordB, e0]
    have e3 : okC n E = 1 := by simp [okC, e0]
    have hread := read_any n E A c
    rw [e0] at hread
    rw [e1, e3]
    have HR := Aside0.mk hread
    clear e0 e1 e3 ok hread
    go_enter Tryd.func28, Tryd.ntmps28
    go_wp2_with (first
      | (go_at_call 47; go_must (refine (HR.out _ (Kd.C_below HC.out ((Below.refl _ _).alloc (Nat.le_refl _) _)) hl).mono ?_); rintro e w1 ⟨s, rfl, hs, HB1⟩)
      | (with_reducible refine gate_ (.store 55 (.tmp 4) (.tmp 11)) rfl ?_; go_must (refine store_row rfl 55 (.tmp 4) (.tmp 11) rfl w1.heap.size 55 (setsV f0) (setsV s) (by simp [Act.eval]) (by simp [Act.eval]) (blk_at rfl) rfl (by kernel_rfl) (setsV_one s) ?_)
         intro w2 hw2 hg2
         have HBw : Below w.heap.size w w1 := below_then ((Below.refl _ _).alloc (Nat.le_refl _) _) (by simp) HB1
         have HB2 : Below w.heap.size w w2 := (HBw.alloc HBw.size _).grown hg2 (by have := HBw.size; simp; omega) (fun q hq => by injection hq with hq; have := HBw.size; omega)
         clear hw2 hg2 HB1 HR HBw hs))
    go_ret2
    exact ⟨rfl, HB2⟩
end Go.Proofs.YtkkfoonaobehaaaDoor.Chord
