import Derived.Test.YtkkfoonaobehaaaDoorExtW
namespace Go.Proofs.YtkkfoonaobehaaaDoor.Mk
open Go.RowKit Go.Proofs.YtkkfoonaobehaaaDoorW.PrintWords Go.Proofs.YtkkfoonaobehaaaDoor.Bits Go.Proofs.YtkkfoonaobehaaaDoor.Low Go.Proofs.YtkkfoonaobehaaaDoor.Sets Go.Proofs.YtkkfoonaobehaaaDoor.Read
open Go.Proofs.YtkkfoonaobehaaaDoor.Kit (store_row R_grownB grownBy_set)
set_option maxHeartbeats 800000
set_option maxRecDepth 100000
set_option linter.unusedVariables false
set_option linter.unusedSimpArgs false

def inR (n : Int) (e : Int × Int) : Bool := decide (0 ≤ e.1) && decide (0 ≤ e.2) && decide (e.1 < n) && decide (e.2 < n)
def loopE (e : Int × Int) : Bool := e.1 == e.2
def mkC (n : Int) (E : List (Int × Int)) : Int := if n < 0 ∨ 64 < n then 3 else if E.all (inR n) then if E.any loopE then 1 else 0 else 3
def mkE (n : Int) (E : List (Int × Int)) : List (Int × Int) := if mkC n E = 0 then edgesOf (joins f0 E) n.toNat else []
def mkN (n : Int) (E : List (Int × Int)) : Int := if mkC n E = 0 then n else 0
theorem all_step (n : Int) (E : List (Int × Int)) (k : Nat) (h : k < E.length) : (E.drop k).all (inR n) = (inR n (E.getD k (0, 0)) && (E.drop (k + 1)).all (inR n)) := by
  rw [List.drop_eq_getElem_cons h, List.all_cons, List.getD_eq_getElem?_getD, List.getElem?_eq_getElem h, Option.getD_some]
theorem any_step (E : List (Int × Int)) (k : Nat) (h : k < E.length) : (E.take (k + 1)).any loopE = ((E.take k).any loopE || loopE (E.getD k (0, 0))) := by
  rw [List.take_succ_eq_append_getElem h, List.any_append, List.getD_eq_getElem?_getD, List.getElem?_eq_getElem h]
  simp
theorem make_any (n : Int) (E : List (Int × Int)) (A : Option Addr) (c : Nat) (w : World) (hT : T w) (hE : KE.C w A E.length E) (hl : E.length ≤ 1000000) :
    Calls Tryd.prog 13 #[.int .i64 n, .slice A E.length c] w fun e w' => ∃ v, e = .returned (.tuple #[.agg #[.int .i64 (mkN n E), v], .int .i64 (mkC n E)]) ∧ Kd.R KE 46 w' w.heap.size (fun _ => True) v (mkE n E) ∧ Below w.heap.size w w' := by
  have HT := Aside0.mk hT
  have HC := Aside0.mk hE
  clear hT hE
  by_cases hn : n < 0 ∨ 64 < n
  · have e1 : mkC n E = 3 := by simp [mkC, hn]
    have e2 : mkN n E = 0 := by simp [mkN, e1]
    have e3 : mkE n E = [] := by simp [mkE, e1]
    rw [e1, e2, e3]
    clear e1 e2 e3
    by_cases h1 : n < 0
    · have d1 : decide (n < 0) = true := by simpa using h1
      clear hn
      go_enter Tryd.func13, Tryd.ntmps13
      go_wp2_with fail
      refine bodyPost_ret (results_ct rfl _ _ w.heap.size 25 #[.int .i64 0, .slice none 0 0] (0, 0) _ (by simp) (blk_at rfl) Tryd.underlying25 rfl (by kernel_rfl)) rfl ?_
      exact ⟨_, rfl, Kd.R_nil _ _ _ _ _, (Below.refl _ _).alloc (Nat.le_refl _) _⟩
    · have d1 : decide (n < 0) = false := by simpa using h1
      have d2 : decide (64 < n) = true := by simpa using (show 64 < n by omega)
      clear hn
      go_enter Tryd.func13, Tryd.ntmps13
      go_wp2_with fail
      refine bodyPost_ret (results_ct rfl _ _ w.heap.size 25 #[.int .i64 0, .slice none 0 0] (0, 0) _ (by simp) (blk_at rfl) Tryd.underlying25 rfl (by kernel_rfl)) rfl ?_
      exact ⟨_, rfl, Kd.R_nil _ _ _ _ _, (Below.refl _ _).alloc (Nat.le_refl _) _⟩
  · have e1 : mkC n E = if E.all (inR n) then if E.any loopE then 1 else 0 else 3 := by simp [mkC, hn]
    obtain ⟨n, rfl⟩ := Int.eq_ofNat_of_zero_le (show 0 ≤ n by omega)
    have hn64 : n ≤ 64 := by omega
    have HBad : Aside0 (E.all (inR n) = false → mkC n E = 3 ∧ mkN n E = 0 ∧ mkE n E = []) := ⟨fun h => by
      have : mkC n E = 3 := by rw [e1, h]; rfl
      simp [mkN, mkE, this]⟩
    have HGood : Aside0 (E.all (inR n) = true → mkC n E = (if E.any loopE then 1 else 0) ∧ mkN n E = (if E.any loopE then 0 else (n : Int)) ∧ mkE n E = (if E.any loopE then [] else edgesOf (joins f0 E) n)) := ⟨fun h => by
      have : mkC n E = if E.any loopE then 1 else 0 := by rw [e1, h]; rfl
      rw [mkN, mkE, this]
      by_cases q : E.any loopE <;> simp [q]⟩
    clear e1
    generalize mkC n E = rc at *
    generalize mkN n E = rn at *
    generalize mkE n E = re at *
    have d1 : decide ((n : Int) < 0) = false := by simp <;> omega
    have d2 : decide ((64 : Int) < (n : Int)) = false := by simp <;> omega
    go_enter Tryd.func13, Tryd.ntmps13
    go_wp2_with fail
    go_loopw [7, 9, 19] (fun t _ i wr => ∃ k : Nat, i = .int .i64 k ∧ k ≤ E.length ∧ t = .bool ((E.take k).any loopE) ∧ wr.heap[w.heap.size]? = some (.cells #[.int .i64 0, .slice none 0 0] 25 (0, 0)) ∧ wr.heap[w.heap.size + 1]? = some (.cells (setsV (joins f0 (E.take k))) 55 (0, 0)) ∧ Bd (joins f0 (E.take k)) ∧ Aside0 (E.all (inR n) = (E.drop k).all (inR n)) ∧ Below w.heap.size w wr) (fun _ _ i _ => E.length - (intOf i).toNat)
    case atStart => exact ⟨0, rfl, by omega, rfl, blk_alloc (blk_at rfl) _, blk_at (by simp), fun _ _ => (by decide : (0:Nat) < 18446744073709551616), ⟨rfl⟩, ((Below.refl _ _).alloc (by omega) _).alloc (by simp) _⟩
    case round =>
      obtain ⟨k, rfl, hk, rfl, HZ, HS, hbd, HK, HB⟩ := hrel
      have z0 : wr.cell? ⟨w.heap.size, 0, none⟩ = some (.int .i64 0) := by simpa using blk_cell HZ 0
      have z1 : wr.cell? ⟨w.heap.size, 1, none⟩ = some (.slice none 0 0) := by simpa using blk_cell HZ 1
      have zf0 := blk_frozen HZ 0
      have zf1 := blk_frozen HZ 1
      have n0 : ¬ (wr.heap.size = w.heap.size) := World.new_ne wr _ z0
      have n1 : ¬ (w.heap.size = wr.heap.size) := fun e => n0 e.symm
      have HZ' := Aside0.mk HZ
      have HS' := Aside0.mk HS
      have HBd := Aside0.mk hbd
      clear HZ HS hbd
      by_cases hlt : k < E.length
      · have HC' := Kd.C_below HC.out HB
        obtain ⟨ad, ead, ha, hb⟩ := C_pair HC' k hlt
        have HA := Aside0.mk (all_step n E k hlt)
        have HL := Aside0.mk (any_step E k hlt)
        have HJ := Aside0.mk (joins_snoc f0 E k hlt)
        cases ead
        generalize E.getD k (0, 0) = ab at *
        obtain ⟨a, b⟩ := ab
        simp only at ha hb
        clear HC'
        have hbadk : inR n (a, b) = false → E.all (inR n) = false := by
          intro h
          rw [HK.out, HA.out, h]
          rfl
        have HBK := Aside0.mk hbadk
        have hal := blk_alloc HZ'.out (.cells #[.int .i64 a, .int .i64 b] 46)
        have za0 : (wr.alloc (.cells #[.int .i64 a, .int .i64 b] 46)).cell? ⟨w.heap.size, 0, none⟩ = some (.int .i64 0) := (blk_cell hal 0).trans rfl
        have za1 : (wr.alloc (.cells #[.int .i64 a, .int .i64 b] 46)).cell? ⟨w.heap.size, 1, none⟩ = some (.slice none 0 0) := (blk_cell hal 1).trans rfl
        have zaf0 := blk_frozen hal 0
        have zaf1 := blk_frozen hal 1
        clear hal
        clear hbadk
        by_cases q1 : a ≤ b
        · have m1 : min a b = a := by omega
          have m2 : max a b = b := by omega
          by_cases q2 : a < 0
          · have d3 : decide (a < 0) = true := by simpa using q2
            obtain ⟨r1, r2, r3⟩ := HBad.out (HBK.out (by simp [inR]; omega))
            have R1 := Aside0.mk r1
            have R2 := Aside0.mk r2
            have R3 := Aside0.mk r3
            clear r1 r2 r3
            go_wp2_with fail
            have H8 := blk_set (blk_set (blk_alloc HZ'.out (.cells #[.int .i64 a, .int .i64 b] 46)) 0 (.int .i64 0)) 1 (.slice none 0 0)
            refine bodyPost_ret (results_ct rfl _ _ w.heap.size 25 #[.int .i64 0, .slice none 0 0] (0, 0) _ (by simp) (by simpa using H8) Tryd.underlying25 rfl (by kernel_rfl)) rfl ?_
            exact ⟨_, by rw [R1.out, R2.out]; rfl, by rw [R3.out]; exact Kd.R_nil _ _ _ _ _, ((HB.alloc HB.size _).setCell (by simp) _).setCell (by simp) _⟩
          · have d3 : decide (a < 0) = false := by simpa using q2
            by_cases q3 : (n : Int) ≤ b
            · have d4 : decide ((n : Int) ≤ b) = true := by simpa using q3
              obtain ⟨r1, r2, r3⟩ := HBad.out (HBK.out (by simp [inR]; omega))
              have R1 := Aside0.mk r1
              have R2 := Aside0.mk r2
              have R3 := Aside0.mk r3
              clear r1 r2 r3
              go_wp2_with fail
              all_goals (
                have H8 := blk_set (blk_set (blk_alloc HZ'.out (.cells #[.int .i64 a, .int .i64 b] 46)) 0 (.int .i64 0)) 1 (.slice none 0 0)
                refine bodyPost_ret (results_ct rfl _ _ w.heap.size 25 #[.int .i64 0, .slice none 0 0] (0, 0) _ (by simp) (by simpa using H8) Tryd.underlying25 rfl (by kernel_rfl)) rfl ?_
                exact ⟨_, by rw [R1.out, R2.out]; rfl, by rw [R3.out]; exact Kd.R_nil _ _ _ _ _, ((HB.alloc HB.size _).setCell (by simp) _).setCell (by simp) _⟩)
            · have d4 : decide ((n : Int) ≤ b) = false := by simpa using q3
              obtain ⟨a, rfl⟩ := Int.eq_ofNat_of_zero_le (show 0 ≤ a by omega)
              obtain ⟨b, rfl⟩ := Int.eq_ofNat_of_zero_le (show 0 ≤ b by omega)
              simp only [Int.toNat_natCast] at HJ
              have hin : inR n ((a : Int), (b : Int)) = true := by simp [inR]; omega
              have HK2 : Aside0 (E.all (inR n) = (E.drop (k + 1)).all (inR n)) := ⟨by rw [HK.out, HA.out, hin, Bool.true_and]⟩
              have hlb : loopE ((a : Int), (b : Int)) = ((a : Int) == (b : Int)) := rfl
              rw [hlb] at HL
              clear hin hlb HBK
              generalize (E.take k).any loopE = t at *
              by_cases q5 : a = b
              · have d6 : ((a : Int) == (b : Int)) = true := by simp [q5]
                have d7 : (a == b) = true := by simp [q5]
                have hl := HL.out
                rw [d6, Bool.or_true] at hl
                have HL2 := Aside0.mk hl
                clear hl HL q5
                cases t <;> (
                  go_wp2_with (go_at_call 40; go_must (refine (join_any (joins f0 (E.take k)) HBd.out (w.heap.size + 1) a b 55 _ (by omega) (by omega) (blk_alloc HS'.out _)).mono ?_); rintro e w2 ⟨rfl, hw2, hg2⟩)
                  have hB2 : Below w.heap.size w w2 := (HB.alloc HB.size _).grown hg2 (by have := HB.size; simp; omega) (fun q hq => by injection hq with hq; omega)
                  exact ⟨⟨k + 1, by go_num, by omega, by rw [HL2.out], blk_grown (blk_alloc HZ'.out _) hg2 (fun e => by injection e with e; omega), by rw [HJ.out]; exact hw2, by rw [HJ.out]; exact join_bd HBd.out (by omega) (by omega), HK2, hB2⟩, by simp [intOf]; omega⟩)
              · have d6 : ((a : Int) == (b : Int)) = false := by simp; omega
                have d7 : (a == b) = false := by simp; omega
                have hl := HL.out
                rw [d6, Bool.or_false] at hl
                have HL2 := Aside0.mk hl
                clear hl HL q5
                cases t <;> (
                  go_wp2_with (go_at_call 40; go_must (refine (join_any (joins f0 (E.take k)) HBd.out (w.heap.size + 1) a b 55 _ (by omega) (by omega) (blk_alloc HS'.out _)).mono ?_); rintro e w2 ⟨rfl, hw2, hg2⟩)
                  have hB2 : Below w.heap.size w w2 := (HB.alloc HB.size _).grown hg2 (by have := HB.size; simp; omega) (fun q hq => by injection hq with hq; omega)
                  exact ⟨⟨k + 1, by go_num, by omega, by rw [HL2.out], blk_grown (blk_alloc HZ'.out _) hg2 (fun e => by injection e with e; omega), by rw [HJ.out]; exact hw2, by rw [HJ.out]; exact join_bd HBd.out (by omega) (by omega), HK2, hB2⟩, by simp [intOf]; omega⟩)
        · have m1 : min a b = b := by omega
          have m2 : max a b = a := by omega
          by_cases q2 : b < 0
          · have d3 : decide (b < 0) = true := by simpa using q2
            obtain ⟨r1, r2, r3⟩ := HBad.out (HBK.out (by simp [inR]; omega))
            have R1 := Aside0.mk r1
            have R2 := Aside0.mk r2
            have R3 := Aside0.mk r3
            clear r1 r2 r3
            go_wp2_with fail
            have H8 := blk_set (blk_set (blk_alloc HZ'.out (.cells #[.int .i64 a, .int .i64 b] 46)) 0 (.int .i64 0)) 1 (.slice none 0 0)
            refine bodyPost_ret (results_ct rfl _ _ w.heap.size 25 #[.int .i64 0, .slice none 0 0] (0, 0) _ (by simp) (by simpa using H8) Tryd.underlying25 rfl (by kernel_rfl)) rfl ?_
            exact ⟨_, by rw [R1.out, R2.out]; rfl, by rw [R3.out]; exact Kd.R_nil _ _ _ _ _, ((HB.alloc HB.size _).setCell (by simp) _).setCell (by simp) _⟩
          · have d3 : decide (b < 0) = false := by simpa using q2
            by_cases q3 : (n : Int) ≤ a
            · have d4 : decide ((n : Int) ≤ a) = true := by simpa using q3
              obtain ⟨r1, r2, r3⟩ := HBad.out (HBK.out (by simp [inR]; omega))
              have R1 := Aside0.mk r1
              have R2 := Aside0.mk r2
              have R3 := Aside0.mk r3
              clear r1 r2 r3
              go_wp2_with fail
              have H8 := blk_set (blk_set (blk_alloc HZ'.out (.cells #[.int .i64 a, .int .i64 b] 46)) 0 (.int .i64 0)) 1 (.slice none 0 0)
              refine bodyPost_ret (results_ct rfl _ _ w.heap.size 25 #[.int .i64 0, .slice none 0 0] (0, 0) _ (by simp) (by simpa using H8) Tryd.underlying25 rfl (by kernel_rfl)) rfl ?_
              exact ⟨_, by rw [R1.out, R2.out]; rfl, by rw [R3.out]; exact Kd.R_nil _ _ _ _ _, ((HB.alloc HB.size _).setCell (by simp) _).setCell (by simp) _⟩
            · have d4 : decide ((n : Int) ≤ a) = false := by simpa using q3
              obtain ⟨a, rfl⟩ := Int.eq_ofNat_of_zero_le (show 0 ≤ a by omega)
              obtain ⟨b, rfl⟩ := Int.eq_ofNat_of_zero_le (show 0 ≤ b by omega)
              simp only [Int.toNat_natCast] at HJ
              have hin : inR n ((a : Int), (b : Int)) = true := by simp [inR]; omega
              have HK2 : Aside0 (E.all (inR n) = (E.drop (k + 1)).all (inR n)) := ⟨by rw [HK.out, HA.out, hin, Bool.true_and]⟩
              have hlb : loopE ((a : Int), (b : Int)) = ((a : Int) == (b : Int)) := rfl
              rw [hlb] at HL
              clear hin hlb HBK
              generalize (E.take k).any loopE = t at *
              by_cases q5 : a = b
              · have d6 : ((a : Int) == (b : Int)) = true := by simp [q5]
                have d7 : (a == b) = true := by simp [q5]
                have hl := HL.out
                rw [d6, Bool.or_true] at hl
                have HL2 := Aside0.mk hl
                clear hl HL q5
                cases t <;> (
                  go_wp2_with (go_at_call 40; go_must (refine (join_any (joins f0 (E.take k)) HBd.out (w.heap.size + 1) a b 55 _ (by omega) (by omega) (blk_alloc HS'.out _)).mono ?_); rintro e w2 ⟨rfl, hw2, hg2⟩)
                  have hB2 : Below w.heap.size w w2 := (HB.alloc HB.size _).grown hg2 (by have := HB.size; simp; omega) (fun q hq => by injection hq with hq; omega)
                  exact ⟨⟨k + 1, by go_num, by omega, by rw [HL2.out], blk_grown (blk_alloc HZ'.out _) hg2 (fun e => by injection e with e; omega), by rw [HJ.out]; exact hw2, by rw [HJ.out]; exact join_bd HBd.out (by omega) (by omega), HK2, hB2⟩, by simp [intOf]; omega⟩)
              · have d6 : ((a : Int) == (b : Int)) = false := by simp; omega
                have d7 : (a == b) = false := by simp; omega
                have hl := HL.out
                rw [d6, Bool.or_false] at hl
                have HL2 := Aside0.mk hl
                clear hl HL q5
                cases t <;> (
                  go_wp2_with (go_at_call 40; go_must (refine (join_any (joins f0 (E.take k)) HBd.out (w.heap.size + 1) a b 55 _ (by omega) (by omega) (blk_alloc HS'.out _)).mono ?_); rintro e w2 ⟨rfl, hw2, hg2⟩)
                  have hB2 : Below w.heap.size w w2 := (HB.alloc HB.size _).grown hg2 (by have := HB.size; simp; omega) (fun q hq => by injection hq with hq; omega)
                  exact ⟨⟨k + 1, by go_num, by omega, by rw [HL2.out], blk_grown (blk_alloc HZ'.out _) hg2 (fun e => by injection e with e; omega), by rw [HJ.out]; exact hw2, by rw [HJ.out]; exact join_bd HBd.out (by omega) (by omega), HK2, hB2⟩, by simp [intOf]; omega⟩)
      · obtain rfl : k = E.length := by omega
        have hall : E.all (inR n) = true := by rw [HK.out, List.drop_length]; rfl
        obtain ⟨r1, r2, r3⟩ := HGood.out hall
        rw [List.take_length]
        rw [List.take_length] at HS' HBd
        clear hall
        generalize E.any loopE = t at *
        cases t with
        | true =>
          have R1 := Aside0.mk r1
          have R2 := Aside0.mk r2
          have R3 := Aside0.mk r3
          clear r1 r2 r3
          go_wp2_with fail
          have H8 := blk_set (blk_set HZ'.out 0 (.int .i64 0)) 1 (.slice none 0 0)
          refine bodyPost_ret (results_ct rfl _ _ w.heap.size 25 #[.int .i64 0, .slice none 0 0] (0, 0) _ (by simp) (by simpa using H8) Tryd.underlying25 rfl (by kernel_rfl)) rfl ?_
          exact ⟨_, by rw [R1.out, R2.out]; rfl, by rw [R3.out]; exact Kd.R_nil _ _ _ _ _, (HB.setCell (by simp) _).setCell (by simp) _⟩
        | false =>
          have R1 := Aside0.mk r1
          have R2 := Aside0.mk r2
          have R3 := Aside0.mk r3
          clear r1 r2 r3
          go_wp2_with (go_at_call 41; go_must (refine (graph_any (joins f0 E) HBd.out (w.heap.size + 1) n 55 _ (by omega) HS'.out (T_below HT.out HB)).mono ?_); go_must (rintro e w7 ⟨v7, rfl, H7, HB7⟩; obtain ⟨A7, c7, rfl, hc7, hC7⟩ := Kd.R_reads H7; have Z7 := blk_below HZ'.out HB7; have z0 : w7.cell? ⟨w.heap.size, 0, none⟩ = some (.int .i64 0) := (by simpa using blk_cell Z7 0); have z1 : w7.cell? ⟨w.heap.size, 1, none⟩ = some (.slice none 0 0) := (by simpa using blk_cell Z7 1); have zf0 := blk_frozen Z7 0; have zf1 := blk_frozen Z7 1; have Z7' := Aside0.mk Z7; clear Z7))
          have H8 := blk_set (blk_set Z7'.out 0 (.int .i64 n)) 1 (.slice A7 (edgesOf (joins f0 E) n).length c7)
          refine bodyPost_ret (results_ct rfl _ _ w.heap.size 25 #[.int .i64 n, .slice A7 (edgesOf (joins f0 E) n).length c7] (0, 0) _ (by simp) (by simpa using H8) Tryd.underlying25 rfl (by kernel_rfl)) rfl ?_
          refine ⟨_, by rw [R1.out, R2.out]; rfl, ?_, ((below_then HB HB.size HB7).setCell (by simp) _).setCell (by simp) _⟩
          rw [R3.out]
          exact Kd.R_set (Kd.R_set (Kd.R_lower H7 HB.size) Z7'.out (by decide) 0 _) (blk_set Z7'.out 0 _) (by decide) 1 _
end Go.Proofs.YtkkfoonaobehaaaDoor.Mk
