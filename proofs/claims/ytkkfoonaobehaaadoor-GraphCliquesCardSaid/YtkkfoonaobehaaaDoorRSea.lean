import Derived.Test.YtkkfoonaobehaaaDoorParts
import Derived.Test.YtkkfoonaobehaaaDoorChB
namespace Go.Proofs.YtkkfoonaobehaaaDoor.RSea
open Go.RowKit Go.Proofs.YtkkfoonaobehaaaDoorW.PrintWords Go.Proofs.YtkkfoonaobehaaaDoor.Bits Go.Proofs.YtkkfoonaobehaaaDoor.Low Go.Proofs.YtkkfoonaobehaaaDoor.Sets Go.Proofs.YtkkfoonaobehaaaDoor.Read Go.Proofs.YtkkfoonaobehaaaDoor.Search Go.Proofs.YtkkfoonaobehaaaDoor.Earl Go.Proofs.YtkkfoonaobehaaaDoor.Tr Go.Proofs.YtkkfoonaobehaaaDoor.Ref Go.Proofs.YtkkfoonaobehaaaDoor.GrP Go.Proofs.YtkkfoonaobehaaaDoor.Parts
set_option maxHeartbeats 1600000
set_option maxRecDepth 100000
set_option linter.unusedVariables false
set_option linter.unusedSimpArgs false
/-- How many of the k first are adjacent. -/
def cntS (u : Nat) (l : List Nat) (k : Nat) : Nat := ((l.take k).filter u.testBit).length
theorem cntS_step (u : Nat) (l : List Nat) (k : Nat) (h : k < l.length) : cntS u l (k + 1) = cntS u l k + if u.testBit (l.getD k 0) = true then 1 else 0 := by
  unfold cntS
  rw [List.take_succ_eq_append_getElem h, List.filter_append, List.length_append]
  have : l.getD k 0 = l[k] := by simp [List.getD_eq_getElem?_getD, h]
  rw [this]
  cases hb : u.testBit l[k] <;> simp [List.filter_cons, hb]
theorem cntS_le (u : Nat) (l : List Nat) (k : Nat) : cntS u l k ≤ k := by
  have h1 := List.length_filter_le u.testBit (l.take k)
  have h2 : (l.take k).length ≤ k := List.length_take_le _ _
  unfold cntS
  omega
theorem cntS_full {u d : Nat} {l : List Nat} (hnd : l.Nodup) (hd : ∀ i, d.testBit i = true ↔ i ∈ l) (hl : ∀ i ∈ l, i < 64) : cntS u l l.length = pc (u &&& d) := by
  unfold cntS pc
  rw [List.take_length]
  apply List.Perm.length_eq
  rw [List.perm_ext_iff_of_nodup (List.Pairwise.filter _ hnd) (ChB.mem_nodup _)]
  intro x
  rw [List.mem_filter, mem_mem, Nat.testBit_and, Bool.and_eq_true, hd]
  constructor
  · rintro ⟨h1, h2⟩; exact ⟨hl x h1, h2, h1⟩
  · rintro ⟨_, h2, h1⟩; exact ⟨h1, h2⟩
theorem rsearch_any (f : Nat → Nat) (n g cc : Nat) (w : World) (hn : n ≤ 64) (hM : Mat w g n f) :
    Calls Tryd.prog 58 #[.slice (some ⟨g, 0, none⟩) n cc] w fun e w' => ∃ v, e = .returned v ∧ KI.R 3 w' w.heap.size (fun _ => True) v (natsI (searchL f n)) ∧ Below w.heap.size w w' := by
  have HM := Aside0.mk hM
  have hmk : ∀ W : World, (Instr.makeSlice 61 (.int .i64 (n : Int)) (.int .i64 (n : Int))).run Tryd.prog W = .ok (.slice (some ⟨W.heap.size, 0, none⟩) n n) (W.alloc (.cells (rowB (bitRow 0 n)) 4)) := by
    intro W
    rw [bitRow_zero, ← rowB_zero]
    exact print_make_of (P := Tryd.prog) 61 4 (.bool false) 1 Tryd.underlying61 (by kernel_rfl) rfl (by decide) n (by omega) W
  clear hM
  go_enter Tryd.func58, Tryd.ntmps58
  go_wp2_with fail
  obtain ⟨gs, hgs⟩ : ∃ gs, gs = w.heap.size := ⟨_, rfl⟩
  have HST := Aside0.mk (blk_new w (.cells (rowB (bitRow 0 n)) 4))
  have HGS := Aside0.mk hgs
  rw [← hgs] at HST ⊢
  clear hgs hmk
  go_loopg [3, 5, 6, 7, 8, 9] n (fun gk o _ _ _ _ _ wr => ∃ r : Nat, gk = n - r ∧ r ≤ n ∧ wr.heap[gs]? = some (.cells (rowB (bitRow (runS f n r).1 n)) 4 (0, 0)) ∧ KI.R 3 wr gs (fun _ => True) o (natsI (runS f n r).2) ∧ Below gs w wr)
  case atStart => exact ⟨0, by omega, by omega, HST.out, Kd.R_nil _ _ _ _ _, by rw [HGS.out]; exact (Below.refl _ _).alloc (Nat.le_refl _) _⟩
  case round =>
    obtain ⟨r, hgk, hr, hR, HO, HB⟩ := hrel
    have hR := Aside0.mk hR
    have hszw : gs ≤ wr.heap.size := by have := blk_lt hR.out; omega
    obtain ⟨i1, i2, i3, i4⟩ := runS_inv f n r hr
    have hlen : (natsI (runS f n r).2).length = r := by rw [nats_len, i1]
    obtain ⟨A3, c3, rfl, hc3, hC3⟩ := Kd.R_reads HO
    rw [hlen] at hc3 hC3 HO ⊢
    by_cases hlt : r < n
    · have HP := Aside0.mk (runS_pick f n r hlt)
      have HRS : Aside0 (runS f n (r + 1) = stepS f n (runS f n r)) := ⟨rfl⟩
      have HCF := Aside0.mk (fun u => cntS_full (u := u) i4 i2 (fun i hi => by have := i3 i hi; omega))
      rw [i1] at HCF
      have HGK := Aside0.mk hgk
      have I1 := Aside0.mk i1
      have I2 := Aside0.mk i2
      have I3 := Aside0.mk i3
      generalize runS f n r = s at *
      obtain ⟨d, out⟩ := s
      simp only at HO hC3 hR HCF I1 I2 I3 HP HRS
      have HC3 := Aside0.mk hC3
      clear i1 i2 i3 i4 hlen hgk hC3
      go_wp2_with fail
      obtain ⟨wo, rfl⟩ : ∃ wo : World, wo = wr := ⟨_, rfl⟩
      go_loopw [5, 6, 7, 8, 9] (fun b m i _ _ wr => ∃ j : Nat, i = .int .i64 j ∧ j ≤ n ∧ b = .int .i64 (pickTo f d j).1 ∧ m = .int .i64 (pickTo f d j).2 ∧ Below wo.heap.size wo wr) (fun _ _ i _ _ _ => n - (intOf i).toNat)
      case atStart => exact ⟨0, rfl, by omega, rfl, rfl, Below.refl _ _⟩
      case round =>
        obtain ⟨j, rfl, hj, rfl, rfl, hB2⟩ := hrel
        obtain ⟨p1, p2, p3, p4⟩ := pickTo_bd f d j
        by_cases hjn : j < n
        · have HQ := Aside0.mk (pickTo_succ f d j)
          generalize pickTo f d j = bm at *
          obtain ⟨bb, mm⟩ := bm
          simp only at p1 p2 p3 p4
          go_wp2_with fail
          obtain ⟨wp, rfl⟩ : ∃ wp : World, wp = wr := ⟨_, rfl⟩
          go_loopw [8, 9] (fun nn k wr => ∃ q : Nat, k = .int .i64 q ∧ q ≤ r ∧ nn = .int .i64 (cntS (f j) out q) ∧ Below wo.heap.size wo wr) (fun _ k _ => r - (intOf k).toNat)
          case atStart => exact ⟨0, rfl, by omega, by simp [cntS], hB2⟩
          case round =>
            obtain ⟨q, rfl, hq, rfl, hB3⟩ := hrel
            have hcl := cntS_le (f j) out q
            by_cases hqr : q < r
            · obtain ⟨ad, ead, hy⟩ := Kd.at_int (Kd.C_below HC3.out hB3) q (by omega) (by omega)
              have hrd : rd (natsI out) (q : Nat) = (out.getD q 0 : Nat) := rd_nats out q
              rw [hrd] at hy
              simp only [Int.toNat_natCast] at hy
              cases ead
              have HCS := Aside0.mk (cntS_step (f j) out q (by rw [I1.out]; exact hqr))
              have hxn : out.getD q 0 < n := by
                have hql : q < out.length := by rw [I1.out]; exact hqr
                rw [List.getD_eq_getElem?_getD, List.getElem?_eq_getElem hql]
                exact I3.out _ (List.getElem_mem hql)
              generalize out.getD q 0 = x at *
              have HMr := Mat_below HM.out (by have := below_then HB hszw hB3; rw [HGS.out] at this; exact this)
              have hcr : wr.cell? ⟨g, j, none⟩ = some (.slice (some ⟨g + 1 + j, 0, none⟩) n n) := (blk_cell HMr.1 j).trans (by rw [rowS_at _ _ _ _ hjn, if_pos hjn])
              have hcb : wr.cell? ⟨g + 1 + j, x, none⟩ = some (.bool ((f j).testBit x)) := (blk_cell (HMr.2 j hjn) x).trans (by rw [rowB_at _ x (by rw [bitRow_len]; exact hxn), bitRow_get _ _ _ hxn])
              generalize cntS (f j) out q = ct at *
              clear HMr hrd
              cases hb : (f j).testBit x with
              | true =>
                rw [hb] at hcb HCS
                have HCS2 : Aside0 (cntS (f j) out (q + 1) = ct + 1) := ⟨by rw [HCS.out]; rfl⟩
                clear hb HCS
                go_wp2_with fail
                go_quiet (fail)
                go_wp2_with fail
                exact ⟨⟨q + 1, by go_num, by omega, by rw [HCS2.out]; go_num, pw_below_drewN hB3 _⟩, by simp [intOf]; omega⟩
              | false =>
                rw [hb] at hcb HCS
                have HCS2 : Aside0 (cntS (f j) out (q + 1) = ct) := ⟨by rw [HCS.out]; simp⟩
                clear hb HCS
                go_wp2_with fail
                go_quiet (fail)
                go_wp2_with fail
                exact ⟨⟨q + 1, by go_num, by omega, by rw [HCS2.out], pw_below_drewN hB3 _⟩, by simp [intOf]; omega⟩
            · obtain rfl : q = r := by omega
              have hpcl := pc_le (f j &&& d)
              rw [HCF.out]
              generalize hpce : pc (f j &&& d) = p at *
              have HPE := Aside0.mk hpce
              have hcd : wr.cell? ⟨gs, j, none⟩ = some (.bool (d.testBit j)) := (blk_cell (blk_below hR.out hB3) j).trans (by rw [rowB_at _ j (by rw [bitRow_len]; exact hjn), bitRow_get _ _ _ hjn])
              clear hpce
              cases hb : d.testBit j with
              | true =>
                rw [hb] at hcd
                have hq1 := HQ.out
                rw [better, if_neg (fun h => by rw [hb] at h; exact absurd h.1 (by simp))] at hq1
                have HQ1 := Aside0.mk hq1
                clear hb hq1
                go_wp2_with fail
                exact ⟨⟨j + 1, by go_num, by omega, by rw [HQ1.out], by rw [HQ1.out], hB3⟩, by simp [intOf]; omega⟩
              | false =>
                rw [hb] at hcd
                by_cases hmm : mm < (p : Int)
                · have d1 : decide (mm < (p : Int)) = true := by simpa using hmm
                  have hq1 := HQ.out
                  rw [better, if_pos ⟨hb, by rw [HPE.out]; exact hmm⟩] at hq1
                  have HQ1 : Aside0 (pickTo f d (j + 1) = ((j : Int), (p : Int))) := ⟨by rw [hq1, HPE.out]⟩
                  clear hb hq1 hmm
                  go_wp2_with fail
                  exact ⟨⟨j + 1, by go_num, by omega, by rw [HQ1.out], by rw [HQ1.out], hB3⟩, by simp [intOf]; omega⟩
                · have d1 : decide (mm < (p : Int)) = false := by simpa using hmm
                  have hq1 := HQ.out
                  rw [better, if_neg (fun h => by have := h.2; rw [HPE.out] at this; exact hmm this)] at hq1
                  have HQ1 := Aside0.mk hq1
                  clear hb hq1 hmm
                  go_wp2_with fail
                  exact ⟨⟨j + 1, by go_num, by omega, by rw [HQ1.out], by rw [HQ1.out], hB3⟩, by simp [intOf]; omega⟩
        · obtain rfl : j = n := by omega
          obtain ⟨v, hv, hvn, hvd⟩ := HP.out
          have HSV : Aside0 (stepS f j (d, out) = (d ||| 2 ^ v, out ++ [v])) := ⟨by simp [stepS, hv]⟩
          rw [hv]
          have hRb := blk_below hR.out hB2
          have hsc : ∃ y, wr.cell? ⟨gs, v, none⟩ = some (.bool y) := ⟨_, (blk_cell hRb v).trans (by rw [rowB_at _ v (by rw [bitRow_len]; exact hvn)])⟩
          obtain ⟨y, hsc⟩ := hsc
          have hfz := blk_frozen hRb v
          have HRB := Aside0.mk hRb
          have HU3 : Aside0 ((wr.setCell ⟨gs, v, none⟩ (.bool true)).heap[gs]? = some (.cells (rowB (bitRow (d ||| 2 ^ v) j)) 4 (0, 0))) := ⟨by
            have := blk_set hRb v (.bool true)
            rw [rowB_set, bitRow_set] at this
            exact this⟩
          have HO9 : KI.R 3 (wr.setCell ⟨gs, v, none⟩ (.bool true)) gs (fun _ => True) (.slice A3 r c3) (natsI out) := Kd.R_set (Kd.R_below HO hB2) hRb (by decide) v _
          have hBw := below_then HB hszw hB2
          have hsz8 : gs ≤ (wr.setCell ⟨gs, v, none⟩ (.bool true)).heap.size := by have := hB2.size; simp; omega
          have HNE := Aside0.mk (Kd.R_ne HO9 HU3.out (by decide))
          clear hRb hv hvd p1 p2 p3 p4
          go_wp2_with (at_builtin; go_must (refine Kd.R_append KI gs (by rfl) (.tmp 57) (.tmp 59) 40 3 (.int .i64 0) 8 (by rfl) Tryd.underlying40 i3 rfl (by decide) (by decide) _ (natsI out) (v : Int) [.int .i64 v] (fun _ => True) (fun _ => False) (by rfl) (by simp [Act.eval]) rfl (fun _ h => h.elim) (fun _ _ => trivial) HO9 (Below.refl _ _) hsz8 (by rw [nats_len, I1.out]; omega) ?_); intro v1 w3 HO3 HB3 hgr _)
          go_roundg (j - (r + 1))
          case measure => rw [HGK.out]; omega
          case rel => exact ⟨r + 1, rfl, by omega, by rw [HRS.out, HSV.out]; exact blk_grown HU3.out hgr HNE.out, by rw [HRS.out, HSV.out]; simpa [natsI] using HO3, (hBw.setCell (by simp) _).grown hgr hsz8 (fun k hk => Kd.R_base HO9 k hk)⟩
    · obtain rfl : r = n := by omega
      clear hC3
      go_wp2_with fail
      go_ret
      exact ⟨_, rfl, by rw [HGS.out] at HO; exact HO, by rw [HGS.out] at HB; exact HB⟩
end Go.Proofs.YtkkfoonaobehaaaDoor.RSea
