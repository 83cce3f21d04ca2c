import Derived.Test.YtkkfoonaobehaaaDoorSets
import Derived.Test.YtkkfoonaobehaaaDoorCmp
import Derived.Test.YtkkfoonaobehaaaDoorKit
namespace Go.Proofs.YtkkfoonaobehaaaDoor.Read
open Go.RowKit Go.Proofs.YtkkfoonaobehaaaDoorW.PrintWords Go.Proofs.YtkkfoonaobehaaaDoor.Bits Go.Proofs.YtkkfoonaobehaaaDoor.Low Go.Proofs.YtkkfoonaobehaaaDoor.Sets Go.Proofs.YtkkfoonaobehaaaDoor.Cmp Go.Proofs.YtkkfoonaobehaaaDoor.Kit
set_option maxHeartbeats 4000000
set_option maxRecDepth 100000

/-- An edge that may stand behind 'prev'. -/
def okE (n : Int) (prev : Option (Int × Int)) (e : Int × Int) : Bool :=
  decide (0 ≤ e.1) && decide (e.1 < e.2) && decide (e.2 < n) && (match prev with | none => true | some p => decide (lexCmp [p.1, p.2] [e.1, e.2] < 0))
def okList (n : Int) : Option (Int × Int) → List (Int × Int) → Bool
  | _, [] => true
  | p, e :: l => okE n p e && okList n (some e) l
/-- The graph is valid. -/
def okG (n : Int) (l : List (Int × Int)) : Bool := decide (0 ≤ n) && decide (n ≤ 64) && okList n none l
def joins (f : Nat → Nat) (l : List (Int × Int)) : Nat → Nat := l.foldl (fun f e => join f e.1.toNat e.2.toNat) f
def f0 : Nat → Nat := fun _ => 0


theorem setsV_one (f : Nat → Nat) : ∀ v ∈ setsV f, v.oneCell' = true := by
  intro v hv
  simp [setsV] at hv
  obtain ⟨i, _, rfl⟩ := hv
  rfl
theorem C_pair {w : World} {A : Option Addr} {E : List (Int × Int)} (h : KE.C w A E.length E) (k : Nat) (hk : k < E.length) : ∃ ad, A = some ad ∧ w.cell? (ad.add (k * 2)) = some (.int .i64 (E.getD k (0, 0)).1) ∧ w.cell? ⟨(ad.add (k * 2)).block, (ad.add (k * 2)).off + 1, none⟩ = some (.int .i64 (E.getD k (0, 0)).2) := by
  obtain ⟨ad, c, e, _, hK, hc⟩ := Kd.C_get h (0, 0) k (by omega) (by omega)
  obtain ⟨c0, c1, rfl, h0, h1⟩ := hK
  have h0' : c0 = [_] := h0
  have h1' : c1 = [_] := h1
  subst h0' h1'
  simp only [Int.toNat_natCast] at hc
  refine ⟨ad, e, hc 0 _ rfl, ?_⟩
  rw [← add_field _ _ 1 (by omega)]
  exact hc 1 _ rfl
theorem C_two {w : World} {p : Addr} {x y : Int} (h0 : w.cell? p = some (.int .i64 x)) (h1 : w.cell? ⟨p.block, p.off + 1, none⟩ = some (.int .i64 y)) : KI.C w (some p) [x, y].length [x, y] := by
  refine ⟨rfl, by simp, fun _ => ⟨p, rfl, ?_⟩⟩
  intro j q hq
  have e1 : p.add 1 = ⟨p.block, p.off + 1, none⟩ := by simp [Addr.add]
  have e0 : p.add 0 = p := by simp [Addr.add]
  match j, hq with
  | 0, hq =>
    obtain rfl : x = q := by simpa using hq
    refine ⟨[.int .i64 x], rfl, rfl, ?_⟩
    intro i u hu
    match i, hu with
    | 0, hu =>
      obtain rfl : _ = u := by simpa using hu
      simpa [e0] using h0
  | 1, hq =>
    obtain rfl : y = q := by simpa using hq
    refine ⟨[.int .i64 y], rfl, rfl, ?_⟩
    intro i u hu
    match i, hu with
    | 0, hu =>
      obtain rfl : _ = u := by simpa using hu
      simp only [Nat.one_mul, Nat.add_zero, show Kd.sz KI = 1 from rfl]
      rw [e1]
      exact h1
/-- What the test of one edge comes to. -/
theorem ok_step (n : Int) (E : List (Int × Int)) (k : Nat) (h : k < E.length) : okList n (if k = 0 then none else some (E.getD (k - 1) (0, 0))) (E.drop k) = (okE n (if k = 0 then none else some (E.getD (k - 1) (0, 0))) (E.getD k (0, 0)) && okList n (if k + 1 = 0 then none else some (E.getD (k + 1 - 1) (0, 0))) (E.drop (k + 1))) := by
  rw [List.drop_eq_getElem_cons h, okList]
  simp [List.getD_eq_getElem?_getD, List.getElem?_eq_getElem h]
theorem joins_snoc (f : Nat → Nat) (E : List (Int × Int)) (k : Nat) (h : k < E.length) : joins f (E.take (k + 1)) = join (joins f (E.take k)) (E.getD k (0, 0)).1.toNat (E.getD k (0, 0)).2.toNat := by
  unfold joins
  rw [List.take_succ_eq_append_getElem h, List.foldl_append]
  simp [List.getD_eq_getElem?_getD, List.getElem?_eq_getElem h]
theorem read_any (n : Int) (E : List (Int × Int)) (A : Option Addr) (c : Nat) (w : World) (hE : KE.C w A E.length E) (hl : E.length ≤ 1000000) :
    Calls Tryd.prog 47 #[.agg #[.int .i64 n, .slice A E.length c]] w fun e w' => ∃ s, e = .returned (.tuple #[.agg (setsV s), .bool (okG n E)]) ∧ (okG n E = true → s = joins f0 E) ∧ Below w.heap.size w w' := by
  have HE := Aside0.mk hE
  clear hE
  by_cases hn : 0 ≤ n ∧ n ≤ 64
  · obtain ⟨hn0, hn1⟩ := hn
    go_enter Tryd.func47, Tryd.ntmps47
    go_wp2_with fail
    go_loopw [5, 6, 19] (fun _ _ i wr => ∃ k : Nat, i = .int .i64 k ∧ k ≤ E.length ∧ wr.heap[w.heap.size]? = some (.cells #[.int .i64 n, .slice A E.length c] 25 (0, 0)) ∧ wr.heap[w.heap.size + 1]? = some (.cells (setsV f0) 55 (0, 0)) ∧ wr.heap[w.heap.size + 1 + 1]? = some (.cells (setsV (joins f0 (E.take k))) 55 (0, 0)) ∧ Bd (joins f0 (E.take k)) ∧ Aside0 (okList n none E = okList n (if k = 0 then none else some (E.getD (k - 1) (0, 0))) (E.drop k)) ∧ Below w.heap.size w wr) (fun _ _ i _ => E.length - (intOf i).toNat)
    case atStart => exact ⟨0, rfl, by omega, blk_alloc (blk_alloc (blk_at rfl) _) _, blk_alloc (blk_at (by simp)) _, blk_at (by simp), fun _ _ => (by decide : (0:Nat) < 18446744073709551616), ⟨rfl⟩, (((Below.refl _ _).alloc (by omega) _).alloc (by simp) _).alloc (by simp; omega) _⟩
    case round =>
      obtain ⟨k, rfl, hk, HG, HZ, HS, hbd, HK, HB⟩ := hrel
      have g0 : wr.cell? ⟨w.heap.size, 0, none⟩ = some (.int .i64 n) := by simpa using blk_cell HG 0
      have g1 : wr.cell? ⟨w.heap.size, 1, none⟩ = some (.slice A E.length c) := by simpa using blk_cell HG 1
      have n0 : ¬ (wr.heap.size = w.heap.size) := World.new_ne wr _ g0
      have n1 : ¬ (w.heap.size = wr.heap.size) := fun e => n0 e.symm
      have HG' := Aside0.mk HG
      have HZ' := Aside0.mk HZ
      have HS' := Aside0.mk HS
      have HBd := Aside0.mk hbd
      clear HG HZ HS hbd
      by_cases hlt : k < E.length
      · have HC := Kd.C_below HE.out HB
        obtain ⟨ad, ead, ha, hb⟩ := C_pair HC k hlt
        have HO := Aside0.mk (ok_step n E k hlt)
        have HJ := Aside0.mk (joins_snoc f0 E k hlt)
        have HK0 := HK.out
        cases ead
        generalize E.getD k (0, 0) = ab at *
        obtain ⟨a, b⟩ := ab
        simp only at ha hb
        have g0a : (wr.alloc (.cells #[.int .i64 a, .int .i64 b] 46)).cell? ⟨w.heap.size, 0, none⟩ = some (.int .i64 n) := pw_cell_below (below_alloc (Below.refl _ _) _) g0
        have g1a : (wr.alloc (.cells #[.int .i64 a, .int .i64 b] 46)).cell? ⟨w.heap.size, 1, none⟩ = some (.slice (some ad) E.length c) := pw_cell_below (below_alloc (Below.refl _ _) _) g1
        have HC' := Aside0.mk HC
        clear HC HK0
        have hbadk : okE n (if k = 0 then none else some (E.getD (k - 1) (0, 0))) (a, b) = false → okG n E = false := by
          intro h
          rw [okG, HK.out, HO.out, h]
          simp
        by_cases q1 : a < 0
        · have hbad := Aside0.mk (hbadk (by simp [okE]; omega))
          have d1 : decide (a < 0) = true := by simpa using q1
          clear hbadk
          go_wp2_with fail
          go_quiet (fail)
          go_wp2_with (with_reducible refine gate_ (.store 55 (.tmp 2) (.tmp 56)) rfl ?_; go_must (refine store_row rfl 55 (.tmp 2) (.tmp 56) rfl (w.heap.size + 1) 55 (setsV f0) (setsV f0) (by simp [Act.eval]) (by simp [Act.eval]; kernel_rfl) (blk_drewN (blk_alloc HZ'.out _) _) rfl (by kernel_rfl) (setsV_one f0) ?_); intro w2 hw2 hg2)
          refine bodyPost_ret (results_ct rfl _ _ (w.heap.size + 1) 55 (setsV f0) (0, 0) _ (by simp) hw2 Tryd.underlying55 rfl (by kernel_rfl)) rfl ?_
          exact ⟨f0, by rw [hbad.out]; simp, fun h => absurd h (by rw [hbad.out]; simp), (pw_below_drewN (HB.alloc HB.size _) _).grown hg2 (by have := HB.size; simp; omega) (fun q hq => by injection hq with hq; omega)⟩
        · have d1 : decide (a < 0) = false := by simpa using q1
          by_cases q2 : b ≤ a
          · have hbad := Aside0.mk (hbadk (by simp [okE]; omega))
            have d2 : decide (b ≤ a) = true := by simpa using q2
            clear hbadk
            go_wp2_with fail
            go_quiet (fail)
            go_wp2_with (with_reducible refine gate_ (.store 55 (.tmp 2) (.tmp 56)) rfl ?_; go_must (refine store_row rfl 55 (.tmp 2) (.tmp 56) rfl (w.heap.size + 1) 55 (setsV f0) (setsV f0) (by simp [Act.eval]) (by simp [Act.eval]; kernel_rfl) (blk_drewN (blk_alloc HZ'.out _) _) rfl (by kernel_rfl) (setsV_one f0) ?_); intro w2 hw2 hg2)
            refine bodyPost_ret (results_ct rfl _ _ (w.heap.size + 1) 55 (setsV f0) (0, 0) _ (by simp) hw2 Tryd.underlying55 rfl (by kernel_rfl)) rfl ?_
            exact ⟨f0, by rw [hbad.out]; simp, fun h => absurd h (by rw [hbad.out]; simp), (pw_below_drewN (HB.alloc HB.size _) _).grown hg2 (by have := HB.size; simp; omega) (fun q hq => by injection hq with hq; omega)⟩
          · have d2 : decide (b ≤ a) = false := by simpa using q2
            by_cases q3 : n ≤ b
            · have hbad := Aside0.mk (hbadk (by simp [okE]; omega))
              have d3 : decide (n ≤ b) = true := by simpa using q3
              clear hbadk
              go_wp2_with fail
              go_quiet (fail)
              go_wp2_with (with_reducible refine gate_ (.store 55 (.tmp 2) (.tmp 56)) rfl ?_; go_must (refine store_row rfl 55 (.tmp 2) (.tmp 56) rfl (w.heap.size + 1) 55 (setsV f0) (setsV f0) (by simp [Act.eval]) (by simp [Act.eval]; kernel_rfl) (blk_drewN (blk_alloc HZ'.out _) _) rfl (by kernel_rfl) (setsV_one f0) ?_); intro w2 hw2 hg2)
              refine bodyPost_ret (results_ct rfl _ _ (w.heap.size + 1) 55 (setsV f0) (0, 0) _ (by simp) hw2 Tryd.underlying55 rfl (by kernel_rfl)) rfl ?_
              exact ⟨f0, by rw [hbad.out]; simp, fun h => absurd h (by rw [hbad.out]; simp), (pw_below_drewN (HB.alloc HB.size _) _).grown hg2 (by have := HB.size; simp; omega) (fun q hq => by injection hq with hq; omega)⟩
            · have d3 : decide (n ≤ b) = false := by simpa using q3
              obtain ⟨a, rfl⟩ := Int.eq_ofNat_of_zero_le (show 0 ≤ a by omega)
              obtain ⟨b, rfl⟩ := Int.eq_ofNat_of_zero_le (show 0 ≤ b by omega)
              simp only [Int.toNat_natCast] at HJ
              have d2n : decide (b ≤ a) = false := by simp; omega
              by_cases q4 : k = 0
              · have hok := Aside0.mk (show okList n none E = okList n (if k + 1 = 0 then none else some (E.getD (k + 1 - 1) (0, 0))) (E.drop (k + 1)) by
                  rw [HK.out, HO.out, if_pos q4]
                  simp [okE]
                  omega)
                have d4 : decide (0 < (k : Int)) = false := by simpa using q4
                have d5 : decide (0 < k) = false := by simpa using q4
                clear hbadk q4
                go_wp2_with fail
                go_quiet (fail)
                go_wp2_with (go_at_call 40; go_must (refine (join_any (joins f0 (E.take k)) HBd.out (w.heap.size + 1 + 1) a b 55 _ (by omega) (by omega) (blk_drewN (blk_alloc HS'.out _) _)).mono ?_); rintro e w2 ⟨rfl, hw2, hg2⟩)
                have hB2 : Below w.heap.size w w2 := (pw_below_drewN (HB.alloc HB.size _) _).grown hg2 (by have := HB.size; simp; omega) (fun q hq => by injection hq with hq; omega)
                refine ⟨⟨k + 1, by go_num, by omega, blk_grown (blk_drewN (blk_alloc HG'.out _) _) hg2 (fun e => by injection e with e; omega), blk_grown (blk_drewN (blk_alloc HZ'.out _) _) hg2 (fun e => by injection e with e; omega), ?_, ?_, ⟨hok.out⟩, hB2⟩, by simp [intOf]; omega⟩
                · rw [HJ.out]; exact hw2
                · rw [HJ.out]; exact join_bd HBd.out (by omega) (by omega)
              · have HC1 := C_pair HC'.out (k - 1) (by omega)
                have HG1 := HO.out
                rw [if_neg q4] at HG1 hbadk
                generalize E.getD (k - 1) (0, 0) = pab at *
                obtain ⟨pa, pb⟩ := pab
                obtain ⟨ad', ead, hpa, hpb⟩ := HC1
                cases ead
                have hq1 : ∀ m, KI.C ((wr.alloc (.cells #[.int .i64 a, .int .i64 b] 46)).drewN m) (some (ad.add ((k - 1) * 2))) [pa, pb].length [pa, pb] := fun m => C_two (p := ad.add ((k - 1) * 2)) (pw_cell_below (below_alloc (Below.refl _ _) _) hpa) (pw_cell_below (below_alloc (Below.refl _ _) _) hpb)
                have hq2 : ∀ m, KI.C ((wr.alloc (.cells #[.int .i64 a, .int .i64 b] 46)).drewN m) (some ⟨wr.heap.size, 0, none⟩) [(a : Int), (b : Int)].length [(a : Int), (b : Int)] := fun m => C_two (p := ⟨wr.heap.size, 0, none⟩) (by simp) (by simp)
                have hw : IntKind.i64.wrap ((k : Int) - 1) = ((k - 1 : Nat) : Int) := by rw [IntWalk.i64_in _ (by omega)]; omega
                have hw0 : (0 : Int) ≤ ((k - 1 : Nat) : Int) := by omega
                have hw1 : ((k - 1 : Nat) : Int) < (E.length : Int) := by omega
                have d4 : decide (0 < (k : Int)) = true := by simp; omega
                have d5 : decide (0 < k) = true := by simp; omega
                simp only at hpa hpb
                obtain ⟨z, hz⟩ : ∃ z, z = lexCmp [pa, pb] [(a : Int), (b : Int)] := ⟨_, rfl⟩
                by_cases q5 : 0 ≤ z
                · have hbad := Aside0.mk (hbadk (by simp [okE]; intros; omega))
                  have d6 : decide (0 ≤ z) = true := by simpa using q5
                  rw [hz] at d6
                  clear hbadk q5 hz HG1
                  go_wp2_with fail
                  go_quiet ((go_at_call 52; exact Calls.quiet_of_same ((compare_any [pa, pb] [(a : Int), (b : Int)] _ _ 2 2 _ (hq1 _) (hq2 _) (by simp) (by simp)).mono fun _ _ h => ⟨h.1, h.2.symm⟩)))
                  go_wp2_with (with_reducible refine gate_ (.store 55 (.tmp 2) (.tmp 56)) rfl ?_; go_must (refine store_row rfl 55 (.tmp 2) (.tmp 56) rfl (w.heap.size + 1) 55 (setsV f0) (setsV f0) (by simp [Act.eval]) (by simp [Act.eval]; kernel_rfl) (blk_drewN (blk_alloc HZ'.out _) _) rfl (by kernel_rfl) (setsV_one f0) ?_); intro w2 hw2 hg2)
                  refine bodyPost_ret (results_ct rfl _ _ (w.heap.size + 1) 55 (setsV f0) (0, 0) _ (by simp) hw2 Tryd.underlying55 rfl (by kernel_rfl)) rfl ?_
                  exact ⟨f0, by rw [hbad.out]; simp, fun h => absurd h (by rw [hbad.out]; simp), (pw_below_drewN (HB.alloc HB.size _) _).grown hg2 (by have := HB.size; simp; omega) (fun q hq => by injection hq with hq; omega)⟩
                · have hok := Aside0.mk (show okList n none E = okList n (if k + 1 = 0 then none else some (E.getD (k + 1 - 1) (0, 0))) (E.drop (k + 1)) by
                    rw [HK.out, if_neg q4, HG1]
                    simp [okE]
                    omega)
                  have d6 : decide (0 ≤ z) = false := by simpa using q5
                  rw [hz] at d6
                  clear hbadk q5 hz HG1 q4
                  go_wp2_with fail
                  go_quiet ((go_at_call 52; exact Calls.quiet_of_same ((compare_any [pa, pb] [(a : Int), (b : Int)] _ _ 2 2 _ (hq1 _) (hq2 _) (by simp) (by simp)).mono fun _ _ h => ⟨h.1, h.2.symm⟩)))
                  go_wp2_with (go_at_call 40; go_must (refine (join_any (joins f0 (E.take k)) HBd.out (w.heap.size + 1 + 1) a b 55 _ (by omega) (by omega) (blk_drewN (blk_alloc HS'.out _) _)).mono ?_); rintro e w2 ⟨rfl, hw2, hg2⟩)
                  have hB2 : Below w.heap.size w w2 := (pw_below_drewN (HB.alloc HB.size _) _).grown hg2 (by have := HB.size; simp; omega) (fun q hq => by injection hq with hq; omega)
                  refine ⟨⟨k + 1, by go_num, by omega, blk_grown (blk_drewN (blk_alloc HG'.out _) _) hg2 (fun e => by injection e with e; omega), blk_grown (blk_drewN (blk_alloc HZ'.out _) _) hg2 (fun e => by injection e with e; omega), ?_, ?_, ⟨hok.out⟩, hB2⟩, by simp [intOf]; omega⟩
                  · rw [HJ.out]; exact hw2
                  · rw [HJ.out]; exact join_bd HBd.out (by omega) (by omega)
      · obtain rfl : k = E.length := by omega
        rw [List.take_length] at HS' HBd
        have hok : okG n E = true := by
          rw [okG, HK.out]
          simp [okList, hn0, hn1]
        have Hok := Aside0.mk hok
        clear hok
        go_wp2_with (first
          | (with_reducible refine gate_ (.load 55 (.tmp 4)) rfl ?_; go_must (refine wpList_load_row rfl 55 (.tmp 4) rfl (w.heap.size + 1 + 1) (by simp [Act.eval]) 55 (setsV (joins f0 E)) (0, 0) _ HS'.out Tryd.underlying55 rfl (by kernel_rfl) ?_))
          | (with_reducible refine gate_ (.store 55 (.tmp 2) (.tmp 63)) rfl ?_; go_must (refine store_row rfl 55 (.tmp 2) (.tmp 63) rfl (w.heap.size + 1) 55 (setsV f0) (setsV (joins f0 E)) (by simp [Act.eval, Act.put]) (by simp [Act.eval, Act.put]) HZ'.out rfl (by kernel_rfl) (setsV_one _) ?_); intro w2 hw2 hg2))
        refine bodyPost_ret (results_ct rfl _ _ (w.heap.size + 1) 55 (setsV (joins f0 E)) (0, 0) _ (by simp) hw2 Tryd.underlying55 rfl (by kernel_rfl)) rfl ?_
        exact ⟨joins f0 E, by rw [Hok.out]; simp, fun _ => rfl, HB.grown hg2 HB.size (fun q hq => by injection hq with hq; omega)⟩
  · have hbad : Aside0 (okG n E = false) := ⟨by simp [okG]; omega⟩
    by_cases h0 : n < 0
    · have d1 : decide (n < 0) = true := by simpa using h0
      clear hn
      go_enter Tryd.func47, Tryd.ntmps47
      go_wp2_with (first
        | (with_reducible refine gate_ (.load 55 (.tmp 4)) rfl ?_; go_must (refine wpList_load_row rfl 55 (.tmp 4) rfl (w.heap.size + 1 + 1) (by simp [Act.eval]) 55 (setsV f0) (0, 0) _ (blk_at (by simp)) Tryd.underlying55 rfl (by kernel_rfl) ?_))
        | (with_reducible refine gate_ (.store 55 (.tmp 2) (.tmp 15)) rfl ?_; go_must (refine store_row rfl 55 (.tmp 2) (.tmp 15) rfl (w.heap.size + 1) 55 (setsV f0) (setsV f0) (by simp [Act.eval, Act.put]) (by simp [Act.eval, Act.put]) (blk_alloc (blk_at (by simp)) _) rfl (by kernel_rfl) (setsV_one _) ?_); intro w2 hw2 hg2))
      refine bodyPost_ret (results_ct rfl _ _ (w.heap.size + 1) 55 (setsV f0) (0, 0) _ (by simp) hw2 Tryd.underlying55 rfl (by kernel_rfl)) rfl ?_
      exact ⟨f0, by rw [hbad.out]; simp, fun h => absurd h (by rw [hbad.out]; simp), ((((Below.refl _ _).alloc (Nat.le_refl _) _).alloc (by simp) _).alloc (by simp; omega) _).grown hg2 (by simp; omega) (fun q hq => by injection hq with hq; omega)⟩
    · have d1 : decide (n < 0) = false := by simpa using h0
      have d2 : decide (64 < n) = true := by simp; omega
      clear hn
      go_enter Tryd.func47, Tryd.ntmps47
      go_wp2_with (first
        | (with_reducible refine gate_ (.load 55 (.tmp 4)) rfl ?_; go_must (refine wpList_load_row rfl 55 (.tmp 4) rfl (w.heap.size + 1 + 1) (by simp [Act.eval]) 55 (setsV f0) (0, 0) _ (blk_at (by simp)) Tryd.underlying55 rfl (by kernel_rfl) ?_))
        | (with_reducible refine gate_ (.store 55 (.tmp 2) (.tmp 15)) rfl ?_; go_must (refine store_row rfl 55 (.tmp 2) (.tmp 15) rfl (w.heap.size + 1) 55 (setsV f0) (setsV f0) (by simp [Act.eval, Act.put]) (by simp [Act.eval, Act.put]) (blk_alloc (blk_at (by simp)) _) rfl (by kernel_rfl) (setsV_one _) ?_); intro w2 hw2 hg2))
      refine bodyPost_ret (results_ct rfl _ _ (w.heap.size + 1) 55 (setsV f0) (0, 0) _ (by simp) hw2 Tryd.underlying55 rfl (by kernel_rfl)) rfl ?_
      exact ⟨f0, by rw [hbad.out]; simp, fun h => absurd h (by rw [hbad.out]; simp), ((((Below.refl _ _).alloc (Nat.le_refl _) _).alloc (by simp) _).alloc (by simp; omega) _).grown hg2 (by simp; omega) (fun q hq => by injection hq with hq; omega)⟩
end Go.Proofs.YtkkfoonaobehaaaDoor.Read
