import Derived.Test.YtkkfoonaobehaaaDoorAdj
namespace Go.Proofs.YtkkfoonaobehaaaDoor.Rd
open Go.RowKit Go.Proofs.YtkkfoonaobehaaaDoorW.PrintWords Go.Proofs.YtkkfoonaobehaaaDoor.Bits Go.Proofs.YtkkfoonaobehaaaDoor.Low Go.Proofs.YtkkfoonaobehaaaDoor.Sets Go.Proofs.YtkkfoonaobehaaaDoor.Read Go.Proofs.YtkkfoonaobehaaaDoor.Mk Go.Proofs.YtkkfoonaobehaaaDoor.Tr Go.Proofs.YtkkfoonaobehaaaDoor.Ref Go.Proofs.YtkkfoonaobehaaaDoor.Keep
set_option maxHeartbeats 800000
set_option maxRecDepth 100000
set_option linter.unusedVariables false

theorem rread_any (n : Nat) (E : List (Int × Int)) (A : Option Addr) (c : Nat) (w : World) (hn : n ≤ 64) (hE : KE.C w A E.length E) (hl : E.length ≤ 1000000) (hall : E.all (inR n) = true) :
    Calls Tryd.prog 46 #[.agg #[.int .i64 n, .slice A E.length c]] w fun e w' => ∃ g, e = .returned (.slice (some ⟨g, 0, none⟩) n n) ∧ w.heap.size ≤ g ∧ Mat w' g n (joins f0 E) ∧ Below w.heap.size w w' := by
  have HC := Aside0.mk hE
  have hir : ∀ k, k < E.length → inR n (E.getD k (0, 0)) = true := by
    intro k hk
    rw [List.all_eq_true] at hall
    refine hall _ ?_
    rw [List.getD_eq_getElem?_getD, List.getElem?_eq_getElem hk, Option.getD_some]
    exact List.getElem_mem hk
  have HIR := Aside0.mk hir
  clear hE hall hir
  go_enter Tryd.func46, Tryd.ntmps46
  go_wp2_with (go_at_call 42; go_must (refine (blank_any n hn _).mono ?_); rintro e w6 ⟨rfl, HM6, HB6⟩)
  have HG6 := Aside0.mk (blk_below (blk_new w (.cells #[.int .i64 n, .slice A E.length c] 25)) HB6)
  have HB7 : Below w.heap.size w w6 := below_then ((Below.refl _ _).alloc (Nat.le_refl _) _) (by simp) HB6
  obtain ⟨g, hge⟩ : ∃ g, g = (w.alloc (.cells #[.int .i64 n, .slice A E.length c] 25)).heap.size := ⟨_, rfl⟩
  have hg1 : g = w.heap.size + 1 := by rw [hge]; simp
  rw [← hge] at HM6
  rw [← hg1]
  have hgw : w.heap.size < g := by omega
  have HM6' := Aside0.mk HM6
  clear HM6 hge hg1 HB6
  go_loopw [4] (fun i wr => ∃ k : Nat, i = .int .i64 k ∧ k ≤ E.length ∧ wr.heap[w.heap.size]? = some (.cells #[.int .i64 n, .slice A E.length c] 25 (0, 0)) ∧ Mat wr g n (joins f0 (E.take k)) ∧ Below w.heap.size w wr) (fun i _ => E.length - (intOf i).toNat)
  case atStart => exact ⟨0, rfl, by omega, HG6.out, HM6'.out, HB7⟩
  case round =>
    obtain ⟨k, rfl, hk, hG, HM, HB⟩ := hrel
    have g1 : wr.cell? ⟨w.heap.size, 1, none⟩ = some (.slice A E.length c) := by simpa using blk_cell hG 1
    have HG := Aside0.mk hG
    have HM' := Aside0.mk HM
    clear hG HM
    by_cases hlt : k < E.length
    · have hir := HIR.out k hlt
      obtain ⟨ad, ead, ha0, hb0⟩ := C_pair HC.out k hlt
      have ha := pw_cell_below HB ha0
      have hb := pw_cell_below HB hb0
      have HJ := Aside0.mk (joins_snoc f0 E k hlt)
      cases ead
      generalize E.getD k (0, 0) = ab at *
      obtain ⟨a, b⟩ := ab
      simp only at ha hb ha0 hb0
      have HA0 := Aside0.mk ha0
      have HB0 := Aside0.mk hb0
      clear ha0 hb0
      simp only [inR, Bool.and_eq_true, decide_eq_true_eq] at hir
      obtain ⟨⟨⟨p1, p2⟩, p3⟩, p4⟩ := hir
      obtain ⟨a, rfl⟩ := Int.eq_ofNat_of_zero_le p1
      obtain ⟨b, rfl⟩ := Int.eq_ofNat_of_zero_le p2
      have han : a < n := by omega
      have hbn : b < n := by omega
      simp only [Int.toNat_natCast] at HJ
      clear p1 p2 p3 p4
      have m1 : wr.cell? ⟨g, a, none⟩ = some (.slice (some ⟨g + 1 + a, 0, none⟩) n n) := (blk_cell HM'.out.1 a).trans (by rw [rowS_at _ _ _ _ han, if_pos han])
      have m3 : wr.cell? ⟨g + 1 + a, b, none⟩ = some (.bool ((joins f0 (E.take k) a).testBit b)) := (blk_cell (HM'.out.2 a han) b).trans (by rw [rowB_at _ b (by rw [bitRow_len]; exact hbn), bitRow_get _ _ _ hbn])
      have mf3 := blk_frozen (HM'.out.2 a han) b
      go_wp2_with fail
      go_region
      obtain ⟨w9, hw9⟩ : ∃ w9 : World, w9 = (wr.setCell ⟨g + 1 + a, b, none⟩ (.bool true)).drew := ⟨_, rfl⟩
      rw [← hw9]
      have hB9 : Below w.heap.size w w9 := by rw [hw9]; exact below_drew (HB.setCell (by simp; omega) _)
      have hM9 : Mat w9 g n (put (joins f0 (E.take k)) a (joins f0 (E.take k) a ||| 2 ^ b)) := by
        have := Mat_put HM'.out a b han
        rw [hw9]
        exact ⟨blk_drew this.1, fun i hi => blk_drew (this.2 i hi)⟩
      have hG9 : w9.heap[w.heap.size]? = some (.cells #[.int .i64 n, .slice (some ad) E.length c] 25 (0, 0)) := by
        rw [hw9]
        exact blk_drew (blk_far HG.out (by simp; omega) _)
      have ha9 := pw_cell_below hB9 HA0.out
      have hb9 := pw_cell_below hB9 HB0.out
      have g19 : w9.cell? ⟨w.heap.size, 1, none⟩ = some (.slice (some ad) E.length c) := by simpa using blk_cell hG9 1
      have m29 : w9.cell? ⟨g, b, none⟩ = some (.slice (some ⟨g + 1 + b, 0, none⟩) n n) := (blk_cell hM9.1 b).trans (by rw [rowS_at _ _ _ _ hbn, if_pos hbn])
      have m49 : w9.cell? ⟨g + 1 + b, a, none⟩ = some (.bool ((put (joins f0 (E.take k)) a (joins f0 (E.take k) a ||| 2 ^ b) b).testBit a)) := (blk_cell (hM9.2 b hbn) a).trans (by rw [rowB_at _ a (by rw [bitRow_len]; exact han), bitRow_get _ _ _ han])
      have mf49 := blk_frozen (hM9.2 b hbn) a
      have HB9 := Aside0.mk hB9
      have HM9 := Aside0.mk hM9
      have HG9 := Aside0.mk hG9
      clear hw9 hB9 hM9 hG9 g1 ha hb m1 m3 mf3
      go_wp2_with fail
      go_region
      go_wp2_with fail
      refine ⟨⟨k + 1, by go_num, by omega, ?_, ?_, ?_⟩, by simp [intOf]; omega⟩
      · exact blk_drew (blk_far HG9.out (by simp; omega) _)
      · rw [HJ.out]
        have := Mat_put HM9.out b a hbn
        exact ⟨blk_drew this.1, fun i hi => blk_drew (this.2 i hi)⟩
      · exact below_drew (HB9.out.setCell (by simp; omega) _)
    · obtain rfl : k = E.length := by omega
      rw [List.take_length] at HM'
      go_wp2_with fail
      go_ret
      exact ⟨g, rfl, by omega, HM'.out, HB⟩
end Go.Proofs.YtkkfoonaobehaaaDoor.Rd
