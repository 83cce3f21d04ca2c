import Derived.Test.YtkkfoonaobehaaaDoorRef
namespace Go.Proofs.YtkkfoonaobehaaaDoor.Aw
open Go.RowKit Go.Proofs.YtkkfoonaobehaaaDoorW.PrintWords Go.Proofs.YtkkfoonaobehaaaDoor.Bits Go.Proofs.YtkkfoonaobehaaaDoor.Low Go.Proofs.YtkkfoonaobehaaaDoor.Sets Go.Proofs.YtkkfoonaobehaaaDoor.Read Go.Proofs.YtkkfoonaobehaaaDoor.Ext Go.Proofs.YtkkfoonaobehaaaDoor.ExtW Go.Proofs.YtkkfoonaobehaaaDoor.Chord Go.Proofs.YtkkfoonaobehaaaDoor.Sort Go.Proofs.YtkkfoonaobehaaaDoor.SortF Go.Proofs.YtkkfoonaobehaaaDoor.Cl Go.Proofs.YtkkfoonaobehaaaDoor.Tr Go.Proofs.YtkkfoonaobehaaaDoor.Mk Go.Proofs.YtkkfoonaobehaaaDoor.Keep
set_option maxHeartbeats 800000
set_option maxRecDepth 100000
set_option linter.unusedVariables false
set_option linter.unusedSimpArgs false
def E0 : List (Int × Int) := [(0, 1), (2, 1), (2, 3), (3, 0), (0, 1)]
def E1 : List (Int × Int) := [(0, 1), (0, 3), (1, 2), (2, 3)]
def E2 : List (Int × Int) := [(0, 1), (0, 3), (1, 2), (1, 3), (2, 3)]
def L2 : List (List Int) := [[0, 1, 3], [1, 2, 3]]
theorem a1 : mkE 4 E0 = E1 := by decide +kernel
theorem a2 : mkC 4 E0 = 0 := by decide +kernel
theorem a3 : mkN 4 E0 = 4 := by decide +kernel
theorem a4 : chordB 4 E1 = false := by decide +kernel
theorem a5 : okC 4 E1 = 0 := by decide +kernel
theorem a6 : extE 4 E1 = E2 := by decide +kernel
theorem a7 : extN 4 E1 = 4 := by decide +kernel
theorem a8 : extC 4 E1 = 0 := by decide +kernel
theorem a9 : clqL 4 E2 = L2 := by decide +kernel
theorem a10 : clqC 4 E2 = 0 := by decide +kernel
theorem a11 : treeL L2 = [-1, 0] := by decide +kernel
theorem a12 : treeC L2 = 0 := by decide +kernel
def flat (E : List (Int × Int)) : List Value := E.flatMap fun e => [.int .i64 e.1, .int .i64 e.2]
theorem flat_at : ∀ (E : List (Int × Int)) (j : Nat) (p : Int × Int), E[j]? = some p → (flat E)[j * 2]? = some (.int .i64 p.1) ∧ (flat E)[j * 2 + 1]? = some (.int .i64 p.2)
  | [], j, p, h => by simp at h
  | e :: E, 0, p, h => by
    obtain rfl : e = p := by simpa using h
    simp [flat]
  | e :: E, j + 1, p, h => by
    have ih := flat_at E j p (by simpa using h)
    have e1 : (j + 1) * 2 = j * 2 + 1 + 1 := by omega
    simp only [flat, List.flatMap_cons, List.cons_append, List.nil_append] at ih ⊢
    rw [e1]
    simpa using ih
theorem add0 (g m : Nat) : Addr.add ⟨g, 0, none⟩ m = ⟨g, m, none⟩ := by
  cases m <;> simp [Addr.add]
theorem C_flat {w : World} {g : Nat} {t : TypeId} {E : List (Int × Int)} (h : w.heap[g]? = some (.cells (flat E).toArray t (0, 0))) (hl : E.length ≤ 1000000) : KE.C w (some ⟨g, 0, none⟩) E.length E := by
  refine ⟨rfl, by omega, fun _ => ⟨_, rfl, fun j p hp => ⟨[.int .i64 p.1, .int .i64 p.2], rfl, ⟨[.int .i64 p.1], [.int .i64 p.2], rfl, rfl, rfl⟩, fun i u hu => ?_⟩⟩⟩
  obtain ⟨h1, h2⟩ := flat_at E j p hp
  have hsz : Kd.sz KE = 2 := rfl
  rw [hsz]
  have hc : w.cell? (Addr.add ⟨g, 0, none⟩ (j * 2 + i)) = (flat E)[j * 2 + i]? := by
    rw [add0]
    simpa using blk_cell h (j * 2 + i)
  rw [hc]
  match i, hu with
  | 0, hu =>
    obtain rfl : _ = u := by simpa using hu
    exact h1
  | 1, hu =>
    obtain rfl : _ = u := by simpa using hu
    exact h2
theorem C_two_lists {w : World} {g g1 g2 : Nat} {t : TypeId} {x y : List Int} (h : w.heap[g]? = some (.cells #[.slice (some ⟨g1, 0, none⟩) x.length x.length, .slice (some ⟨g2, 0, none⟩) y.length y.length] t (0, 0))) (h1 : KI.C w (some ⟨g1, 0, none⟩) x.length x) (h2 : KI.C w (some ⟨g2, 0, none⟩) y.length y) : KS.C w (some ⟨g, 0, none⟩) [x, y].length [x, y] := by
  refine ⟨rfl, by simp, fun _ => ⟨_, rfl, fun j p hp => ?_⟩⟩
  have c0 : w.cell? ⟨g, 0, none⟩ = some (.slice (some ⟨g1, 0, none⟩) x.length x.length) := by simpa using blk_cell h 0
  have c1 : w.cell? ⟨g, 1, none⟩ = some (.slice (some ⟨g2, 0, none⟩) y.length y.length) := by simpa using blk_cell h 1
  match j, hp with
  | 0, hp =>
    obtain rfl : x = p := by simpa using hp
    refine ⟨[.slice (some ⟨g1, 0, none⟩) x.length x.length], rfl, ⟨_, _, rfl, Nat.le_refl _, h1⟩, ?_⟩
    intro i u hu
    match i, hu with
    | 0, hu =>
      obtain rfl : _ = u := by simpa using hu
      simpa [Addr.add] using c0
  | 1, hp =>
    obtain rfl : y = p := by simpa using hp
    refine ⟨[.slice (some ⟨g2, 0, none⟩) y.length y.length], rfl, ⟨_, _, rfl, Nat.le_refl _, h2⟩, ?_⟩
    intro i u hu
    match i, hu with
    | 0, hu =>
      obtain rfl : _ = u := by simpa using hu
      simpa [Addr.add, show Kd.sz KS = 1 from rfl] using c1
theorem aw_make (A : Option Addr) (c : Nat) (w : World) (hT : T w) (hE : KE.C w A 5 E0) : Calls Tryd.prog 13 #[.int .i64 4, .slice A 5 c] w fun e w' => ∃ v, e = .returned (.tuple #[.agg #[.int .i64 4, v], .int .i64 0]) ∧ Kd.R KE 46 w' w.heap.size (fun _ => True) v E1 ∧ Below w.heap.size w w' := by
  have h := make_any 4 E0 A c w hT hE (by decide)
  rw [a1, a2, a3] at h
  exact h
theorem aw_chord (A : Option Addr) (c : Nat) (w : World) (hT : T w) (hE : KE.C w A 4 E1) : Calls Tryd.prog 28 #[.agg #[.int .i64 4, .slice A 4 c]] w fun e w' => e = .returned (.tuple #[.bool false, .int .i64 0]) ∧ Below w.heap.size w w' := by
  have h := chord_any 4 E1 A c w hT hE (by decide)
  rw [a4, a5] at h
  exact h
theorem aw_ext (A : Option Addr) (c : Nat) (w : World) (hT : T w) (hE : KE.C w A 4 E1) : Calls Tryd.prog 25 #[.agg #[.int .i64 4, .slice A 4 c]] w fun e w' => ∃ v, e = .returned (.tuple #[.agg #[.int .i64 4, v], .int .i64 0]) ∧ Kd.R KE 46 w' w.heap.size (fun _ => True) v E2 ∧ Below w.heap.size w w' := by
  have h := ext_any 4 E1 A c w hT hE (by decide)
  rw [a6, a7, a8] at h
  exact h
theorem aw_cliq (A : Option Addr) (c : Nat) (w : World) (hT : T w) (hE : KE.C w A 5 E2) : Calls Tryd.prog 18 #[.agg #[.int .i64 4, .slice A 5 c]] w fun e w' => ∃ v, e = .returned (.tuple #[v, .int .i64 0]) ∧ KS.R 40 w' w.heap.size (fun _ => True) v L2 ∧ Below w.heap.size w w' := by
  have h := cliq_any 4 E2 A c w hT hE (by decide) (by decide)
  rw [a9, a10] at h
  exact h
theorem aw_tree (A : Option Addr) (c : Nat) (w : World) (hL : KS.C w A 2 L2) : Calls Tryd.prog 22 #[.slice A 2 c] w fun e w' => ∃ v, e = .returned (.tuple #[v, .int .i64 0]) ∧ Kd.R KI 3 w' w.heap.size (fun _ => True) v [-1, 0] ∧ Below w.heap.size w w' := by
  have h := tree_any L2 A c w hL (by decide) (by decide)
  rw [a11, a12] at h
  exact h
theorem aw_lists (w : World) (A : Option Addr) (c : Nat) (h : KS.C w A 2 L2) : Calls Tryd.prog 20 #[.slice A 2 c, .slice (some ⟨w.heap.size + 1 + 1, 0, none⟩) 2 2]
    (((w.alloc (.cells #[.int .i64 0, .int .i64 1, .int .i64 3] 3)).alloc (.cells #[.int .i64 1, .int .i64 2, .int .i64 3] 3)).alloc (.cells #[.slice (some ⟨w.heap.size, 0, none⟩) 3 3, .slice (some ⟨w.heap.size + 1, 0, none⟩) 3 3] 40))
    fun e w' => e = .returned (.bool true) ∧ Below w.heap.size w w' := by
  have hb : Below w.heap.size w (((w.alloc (.cells #[.int .i64 0, .int .i64 1, .int .i64 3] 3)).alloc (.cells #[.int .i64 1, .int .i64 2, .int .i64 3] 3)).alloc (.cells #[.slice (some ⟨w.heap.size, 0, none⟩) 3 3, .slice (some ⟨w.heap.size + 1, 0, none⟩) 3 3] 40)) :=
    (((Below.refl _ _).alloc (Nat.le_refl _) _).alloc (by simp) _).alloc (by simp; omega) _
  have b1 : (((w.alloc (.cells #[.int .i64 0, .int .i64 1, .int .i64 3] 3)).alloc (.cells #[.int .i64 1, .int .i64 2, .int .i64 3] 3)).alloc (.cells #[.slice (some ⟨w.heap.size, 0, none⟩) 3 3, .slice (some ⟨w.heap.size + 1, 0, none⟩) 3 3] 40)).heap[w.heap.size]? = some (.cells (rowI [0, 1, 3]) 3 (0, 0)) := blk_alloc (blk_alloc (blk_at rfl) _) _
  have b2 : (((w.alloc (.cells #[.int .i64 0, .int .i64 1, .int .i64 3] 3)).alloc (.cells #[.int .i64 1, .int .i64 2, .int .i64 3] 3)).alloc (.cells #[.slice (some ⟨w.heap.size, 0, none⟩) 3 3, .slice (some ⟨w.heap.size + 1, 0, none⟩) 3 3] 40)).heap[w.heap.size + 1]? = some (.cells (rowI [1, 2, 3]) 3 (0, 0)) := blk_alloc (blk_at (by simp)) _
  have b3 : (((w.alloc (.cells #[.int .i64 0, .int .i64 1, .int .i64 3] 3)).alloc (.cells #[.int .i64 1, .int .i64 2, .int .i64 3] 3)).alloc (.cells #[.slice (some ⟨w.heap.size, 0, none⟩) 3 3, .slice (some ⟨w.heap.size + 1, 0, none⟩) 3 3] 40)).heap[w.heap.size + 1 + 1]? = some (.cells #[.slice (some ⟨w.heap.size, 0, none⟩) 3 3, .slice (some ⟨w.heap.size + 1, 0, none⟩) 3 3] 40 (0, 0)) := blk_at (by simp)
  generalize (((w.alloc (.cells #[.int .i64 0, .int .i64 1, .int .i64 3] 3)).alloc (.cells #[.int .i64 1, .int .i64 2, .int .i64 3] 3)).alloc (.cells #[.slice (some ⟨w.heap.size, 0, none⟩) 3 3, .slice (some ⟨w.heap.size + 1, 0, none⟩) 3 3] 40)) = W at *
  have c1 : KI.C W (some ⟨w.heap.size, 0, none⟩) 3 [0, 1, 3] := (R_at (R_of_blk (xs := [0, 1, 3]) (base := 0) b1 (Nat.zero_le _) (by decide))).2.2
  have c2 : KI.C W (some ⟨w.heap.size + 1, 0, none⟩) 3 [1, 2, 3] := (R_at (R_of_blk (xs := [1, 2, 3]) (base := 0) b2 (Nat.zero_le _) (by decide))).2.2
  have hy : KS.C W (some ⟨w.heap.size + 1 + 1, 0, none⟩) 2 L2 := C_two_lists (x := [0, 1, 3]) (y := [1, 2, 3]) b3 c1 c2
  have hsh : ∀ i, (L2.getD i []).length ≤ 1000000 := by
    intro i
    match i with
    | 0 => decide
    | 1 => decide
    | i + 2 => simp [L2]
  have hc := lists_any L2 L2 A _ c 2 W (Kd.C_below h hb) hy (by decide) (by decide) hsh hsh
  rw [decide_eq_true rfl] at hc
  refine hc.mono ?_
  rintro e w' ⟨he, m, rfl⟩
  exact ⟨he, pw_below_drewN hb m⟩
theorem aw_ints (w : World) (A : Option Addr) (c : Nat) (h : KI.C w A 2 [-1, 0]) : Calls Tryd.prog 24 #[.slice A 2 c, .slice (some ⟨w.heap.size, 0, none⟩) 2 2]
    (w.alloc (.cells #[.int .i64 (-1), .int .i64 0] 3)) fun e w' => e = .returned (.bool true) ∧ Below w.heap.size w w' := by
  have hb : Below w.heap.size w (w.alloc (.cells #[.int .i64 (-1), .int .i64 0] 3)) := (Below.refl _ _).alloc (Nat.le_refl _) _
  have b1 : (w.alloc (.cells #[.int .i64 (-1), .int .i64 0] 3)).heap[w.heap.size]? = some (.cells (rowI [-1, 0]) 3 (0, 0)) := blk_at rfl
  generalize w.alloc (.cells #[.int .i64 (-1), .int .i64 0] 3) = W at *
  have c1 : KI.C W (some ⟨w.heap.size, 0, none⟩) 2 [-1, 0] := (R_at (R_of_blk (xs := [-1, 0]) (base := 0) b1 (Nat.zero_le _) (by decide))).2.2
  have hc := ints_any [-1, 0] [-1, 0] A _ c 2 W (Kd.C_below h hb) c1 (by decide) (by decide)
  rw [decide_eq_true rfl] at hc
  refine hc.mono ?_
  rintro e w' ⟨he, m, rfl⟩
  exact ⟨he, pw_below_drewN hb m⟩
theorem awake_any (w : World) (hT : T w) : Calls Tryd.prog 12 #[] w fun e w' => e = .returned (.bool true) ∧ Below w.heap.size w w' := by
  have HT := Aside0.mk hT
  clear hT
  go_enter Tryd.func12, Tryd.ntmps12
  go_wp2_with (first
    | (go_at_call 13; go_must (refine (aw_make (some ⟨w.heap.size, 0, none⟩) 5 _ (T_below HT.out ((Below.refl _ _).alloc (Nat.le_refl _) _)) (C_flat (E := E0) (t := 46) (blk_at rfl) (by decide))).mono ?_); rintro e w1 ⟨v1, rfl, HO1, HB1⟩; obtain ⟨A1, c1, rfl, hc1, hC1⟩ := Kd.R_reads HO1
       have HC1 : Aside0 (KE.C w1 A1 4 E1) := ⟨hC1⟩
       have HBw1 : Aside0 (Below w.heap.size w w1) := ⟨below_then ((Below.refl _ _).alloc (Nat.le_refl _) _) (by simp) HB1⟩
       clear hC1 HO1 HB1
       simp only [show E1.length = 4 from rfl] at hc1 ⊢)
    | (go_at_call 28; go_must (refine (aw_chord A1 c1 _ (T_below HT.out (HBw1.out.alloc HBw1.out.size _)) (Kd.C_below HC1.out ((Below.refl _ _).alloc (Nat.le_refl _) _))).mono ?_); rintro e w2 ⟨rfl, HB2⟩
       have G2 := blk_below (blk_at (o := .cells #[.int .i64 4, .slice A1 4 c1] 25) (w := w1) rfl) HB2
       have HC2 : Aside0 (KE.C w2 A1 4 E1) := ⟨Kd.C_below HC1.out (below_then ((Below.refl _ _).alloc (Nat.le_refl _) _) (by simp) HB2)⟩
       have HBw2 : Aside0 (Below w.heap.size w w2) := ⟨below_then (HBw1.out.alloc HBw1.out.size _) (by have := HBw1.out.size; simp; omega) HB2⟩
       have g20 : w2.cell? ⟨w1.heap.size, 0, none⟩ = some (.int .i64 4) := by simpa using blk_cell G2 0
       have g21 : w2.cell? ⟨w1.heap.size, 1, none⟩ = some (.slice A1 4 c1) := by simpa using blk_cell G2 1
       clear HB2 G2)
    | (go_at_call 25; go_must (refine (aw_ext A1 c1 _ (T_below HT.out HBw2.out) HC2.out).mono ?_); rintro e w3 ⟨v3, rfl, HO3, HB3⟩; obtain ⟨A3, c3, rfl, hc3, hC3⟩ := Kd.R_reads HO3
       have HC3 : Aside0 (KE.C w3 A3 5 E2) := ⟨hC3⟩
       have HBw3 : Aside0 (Below w.heap.size w w3) := ⟨below_then HBw2.out HBw2.out.size HB3⟩
       clear hC3 HO3 HB3 g20 g21
       simp only [show E2.length = 5 from rfl] at hc3 ⊢)
    | (go_at_call 18; go_must (refine (aw_cliq A3 c3 _ (T_below HT.out (HBw3.out.alloc HBw3.out.size _)) (Kd.C_below HC3.out ((Below.refl _ _).alloc (Nat.le_refl _) _))).mono ?_); rintro e w4 ⟨v4, rfl, HO4, HB4⟩; obtain ⟨A4, c4, rfl, hc4, hC4⟩ := Kd.R_reads HO4
       have HC4 : Aside0 (KS.C w4 A4 2 L2) := ⟨hC4⟩
       have HBw4 : Aside0 (Below w.heap.size w w4) := ⟨below_then (HBw3.out.alloc HBw3.out.size _) (by have := HBw3.out.size; simp; omega) HB4⟩
       clear hC4 HO4 HB4
       simp only [show L2.length = 2 from rfl] at hc4 ⊢)
    | (go_at_call 22; go_must (refine (aw_tree A4 c4 _ HC4.out).mono ?_); rintro e w5 ⟨v5, rfl, HO5, HB5⟩; obtain ⟨A5, c5, rfl, hc5, hC5⟩ := Kd.R_reads HO5
       have HC5 : Aside0 (KI.C w5 A5 2 [-1, 0]) := ⟨hC5⟩
       have HC45 : Aside0 (KS.C w5 A4 2 L2) := ⟨Kd.C_below HC4.out HB5⟩
       have HBw5 : Aside0 (Below w.heap.size w w5) := ⟨below_then HBw4.out HBw4.out.size HB5⟩
       clear hC5 HO5 HB5
       simp only [show [(-1 : Int), 0].length = 2 from rfl] at hc5 ⊢)
    | (go_at_call 20; go_must (refine (aw_lists w5 A4 c4 HC45.out).mono ?_); rintro e w6 ⟨rfl, HB6⟩
       have HC6 : Aside0 (KI.C w6 A5 2 [-1, 0]) := ⟨Kd.C_below HC5.out HB6⟩
       have HBw6 : Aside0 (Below w.heap.size w w6) := ⟨below_then HBw5.out HBw5.out.size HB6⟩
       clear HB6)
    | (go_at_call 24; go_must (refine (aw_ints w6 A5 c5 HC6.out).mono ?_); rintro e w7 ⟨rfl, HB7⟩
       have HBw7 : Aside0 (Below w.heap.size w w7) := ⟨below_then HBw6.out HBw6.out.size HB7⟩
       clear HB7))
  go_ret
  exact ⟨by rfl, HBw7.out⟩
end Go.Proofs.YtkkfoonaobehaaaDoor.Aw
