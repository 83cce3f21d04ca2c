import Derived.Test.YtkkfoonaobehaaaDoorChord
namespace Go.Proofs.YtkkfoonaobehaaaDoor.Ord
open Go.RowKit Go.Proofs.YtkkfoonaobehaaaDoorW.PrintWords Go.Proofs.YtkkfoonaobehaaaDoor.Bits Go.Proofs.YtkkfoonaobehaaaDoor.Low Go.Proofs.YtkkfoonaobehaaaDoor.Sets Go.Proofs.YtkkfoonaobehaaaDoor.Read Go.Proofs.YtkkfoonaobehaaaDoor.Search Go.Proofs.YtkkfoonaobehaaaDoor.Earl Go.Proofs.YtkkfoonaobehaaaDoor.Ext Go.Proofs.YtkkfoonaobehaaaDoor.Chord
open Go.Proofs.YtkkfoonaobehaaaDoor.Kit (store_row R_grownB grownBy_set)
set_option maxHeartbeats 800000
set_option maxRecDepth 100000
set_option linter.unusedVariables false
set_option linter.unusedSimpArgs false

/-- What Order answers. -/
def ordL (n : Int) (E : List (Int × Int)) : List Int := if okG n E then (searchL (joins f0 E) n.toNat).map Int.ofNat else []
theorem ord_any (n : Int) (E : List (Int × Int)) (A : Option Addr) (c : Nat) (w : World) (hE : KE.C w A E.length E) (hl : E.length ≤ 1000000) :
    Calls Tryd.prog 32 #[.agg #[.int .i64 n, .slice A E.length c]] w fun e w' => ∃ v, e = .returned (.tuple #[v, .int .i64 (okC n E)]) ∧ Kd.R KI 3 w' w.heap.size (fun _ => True) v (ordL n E) ∧ Below w.heap.size w w' := by
  have HC := Aside0.mk hE
  clear hE
  by_cases ok : okG n E = true
  · obtain ⟨hn0, hn1, hbd⟩ := okG_bd ok
    obtain ⟨m, rfl⟩ := Int.eq_ofNat_of_zero_le hn0
    have e1 : ordL m E = (searchL (joins f0 E) m).map Int.ofNat := by simp [ordL, ok]
    have e3 : okC m E = 0 := by simp [okC, ok]
    have hread := read_any (m : Int) E A c
    rw [ok] at hread
    rw [e1, e3]
    have HR := Aside0.mk hread
    clear e1 e3 ok hread
    generalize joins f0 E = f at *
    go_enter Tryd.func32, Tryd.ntmps32
    go_wp2_with (first
      | (go_at_call 47; go_must (refine (HR.out _ (Kd.C_below HC.out ((Below.refl _ _).alloc (Nat.le_refl _) _)) hl).mono ?_); rintro e w1 ⟨s, rfl, hs, HB1⟩; obtain rfl : s = f := hs rfl)
      | (with_reducible refine gate_ (.store 55 (.tmp 4) (.tmp 9)) rfl ?_; go_must (refine store_row rfl 55 (.tmp 4) (.tmp 9) rfl w1.heap.size 55 (setsV f0) (setsV s) (by simp [Act.eval]) (by simp [Act.eval]) (blk_at rfl) rfl (by kernel_rfl) (setsV_one s) ?_)
         intro w2 hw2 hg2
         obtain ⟨B, hB⟩ : ∃ B, B = w1.heap.size := ⟨_, rfl⟩
         have hs2 : w.heap.size < B := by have := HB1.size; simp at this; omega
         have HBw : Below w.heap.size w w1 := below_then ((Below.refl _ _).alloc (Nat.le_refl _) _) (by simp) HB1
         have HB2 : Below w.heap.size w w2 := (HBw.alloc HBw.size _).grown hg2 (by have := HBw.size; simp; omega) (fun q hq => by injection hq with hq; have := HBw.size; omega)
         have HG2 := blk_grown (blk_alloc (blk_below (blk_new w (.cells #[.int .i64 m, .slice A E.length c] 25)) HB1) _) hg2 (fun e => by injection e with e; omega)
         have g0 : w2.cell? ⟨w.heap.size, 0, none⟩ = some (.int .i64 m) := by simpa using blk_cell HG2 0
         rw [← hB] at hw2
         rw [← hB]
         have HWs := Aside0.mk hw2
         clear hw2 hg2 HG2 hB HB1 HR HBw hs)
      | (with_reducible refine gate_ (.load 55 (.tmp 4)) rfl ?_; refine wpList_load_row rfl 55 (.tmp 4) rfl B (by simp [Act.eval, Act.put]) 55 (setsV s) (0, 0) _ HWs.out Tryd.underlying55 rfl (by kernel_rfl) ?_)
      | (go_at_call 48; go_must (refine (search_any s hbd m (by omega) _).mono ?_); rintro e w3 ⟨u, rfl, HU, HB3⟩))
    go_ret2
    exact ⟨_, rfl, Kd.R_lower HU HB2.size, below_then HB2 HB2.size HB3⟩
  · have e0 : okG n E = false := by simpa using ok
    have e1 : ordL n E = [] := by simp [ordL, e0]
    have e3 : okC n E = 1 := by simp [okC, e0]
    have hread := read_any n E A c
    rw [e0] at hread
    rw [e1, e3]
    have HR := Aside0.mk hread
    clear e0 e1 e3 ok hread
    go_enter Tryd.func32, Tryd.ntmps32
    go_wp2_with (first
      | (go_at_call 47; go_must (refine (HR.out _ (Kd.C_below HC.out ((Below.refl _ _).alloc (Nat.le_refl _) _)) hl).mono ?_); rintro e w1 ⟨s, rfl, hs, HB1⟩)
      | (with_reducible refine gate_ (.store 55 (.tmp 4) (.tmp 9)) rfl ?_; go_must (refine store_row rfl 55 (.tmp 4) (.tmp 9) rfl w1.heap.size 55 (setsV f0) (setsV s) (by simp [Act.eval]) (by simp [Act.eval]) (blk_at rfl) rfl (by kernel_rfl) (setsV_one s) ?_)
         intro w2 hw2 hg2
         have HBw : Below w.heap.size w w1 := below_then ((Below.refl _ _).alloc (Nat.le_refl _) _) (by simp) HB1
         have HB2 : Below w.heap.size w w2 := (HBw.alloc HBw.size _).grown hg2 (by have := HBw.size; simp; omega) (fun q hq => by injection hq with hq; have := HBw.size; omega)
         clear hw2 hg2 HB1 HR HBw hs))
    go_ret2
    exact ⟨_, rfl, Kd.R_nil _ _ _ _ _, HB2⟩
theorem comp_bad (n : Int) (E : List (Int × Int)) (A : Option Addr) (c : Nat) (w : World) (hE : KE.C w A E.length E) (hl : E.length ≤ 1000000) (e0 : okG n E = false) :
    Calls Tryd.prog 30 #[.agg #[.int .i64 n, .slice A E.length c]] w fun e w' => e = .returned (.tuple #[.slice none 0 0, .int .i64 1]) ∧ Below w.heap.size w w' := by
  have HC := Aside0.mk hE
  have hread := read_any n E A c
  rw [e0] at hread
  have HR := Aside0.mk hread
  clear e0 hread hE
  go_enter Tryd.func30, Tryd.ntmps30
  go_wp2_with (first
    | (go_at_call 47; go_must (refine (HR.out _ (Kd.C_below HC.out ((Below.refl _ _).alloc (Nat.le_refl _) _)) hl).mono ?_); rintro e w1 ⟨s, rfl, hs, HB1⟩)
    | (with_reducible refine gate_ (.store 55 (.tmp 4) (.tmp 16)) rfl ?_; go_must (refine store_row rfl 55 (.tmp 4) (.tmp 16) rfl w1.heap.size 55 (setsV f0) (setsV s) (by simp [Act.eval]) (by simp [Act.eval]) (blk_at rfl) rfl (by kernel_rfl) (setsV_one s) ?_)
       intro w2 hw2 hg2
       have HBw : Below w.heap.size w w1 := below_then ((Below.refl _ _).alloc (Nat.le_refl _) _) (by simp) HB1
       have HB2 : Below w.heap.size w w2 := (HBw.alloc HBw.size _).grown hg2 (by have := HBw.size; simp; omega) (fun q hq => by injection hq with hq; have := HBw.size; omega)
       clear hw2 hg2 HB1 HR HBw hs))
  go_ret2
  exact ⟨rfl, HB2⟩
theorem cliq_bad (n : Int) (E : List (Int × Int)) (A : Option Addr) (c : Nat) (w : World) (hE : KE.C w A E.length E) (hl : E.length ≤ 1000000) (e0 : okG n E = false) :
    Calls Tryd.prog 18 #[.agg #[.int .i64 n, .slice A E.length c]] w fun e w' => e = .returned (.tuple #[.slice none 0 0, .int .i64 1]) ∧ Below w.heap.size w w' := by
  have HC := Aside0.mk hE
  have hread := read_any n E A c
  rw [e0] at hread
  have HR := Aside0.mk hread
  clear e0 hread hE
  go_enter Tryd.func18, Tryd.ntmps18
  go_wp2_with (first
    | (go_at_call 47; go_must (refine (HR.out _ (Kd.C_below HC.out ((Below.refl _ _).alloc (Nat.le_refl _) _)) hl).mono ?_); rintro e w1 ⟨s, rfl, hs, HB1⟩)
    | (with_reducible refine gate_ (.store 55 (.tmp 4) (.tmp 21)) rfl ?_; go_must (refine store_row rfl 55 (.tmp 4) (.tmp 21) rfl w1.heap.size 55 (setsV f0) (setsV s) (by simp [Act.eval]) (by simp [Act.eval]) (blk_at rfl) rfl (by kernel_rfl) (setsV_one s) ?_)
       intro w2 hw2 hg2
       have HBw : Below w.heap.size w w1 := below_then ((Below.refl _ _).alloc (Nat.le_refl _) _) (by simp) HB1
       have HB2 : Below w.heap.size w w2 := (HBw.alloc HBw.size _).grown hg2 (by have := HBw.size; simp; omega) (fun q hq => by injection hq with hq; have := HBw.size; omega)
       clear hw2 hg2 HB1 HR HBw hs))
  go_ret2
  exact ⟨rfl, HB2⟩
end Go.Proofs.YtkkfoonaobehaaaDoor.Ord
