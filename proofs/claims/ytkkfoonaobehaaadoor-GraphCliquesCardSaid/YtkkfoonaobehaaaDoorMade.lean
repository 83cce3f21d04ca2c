import Derived.Test.YtkkfoonaobehaaaDoorRef
import Derived.Test.YtkkfoonaobehaaaDoorGrP
import Derived.IntWalk
namespace Go.Proofs.YtkkfoonaobehaaaDoor.Made
open Go.RowKit Go.Proofs.YtkkfoonaobehaaaDoorW.PrintWords Go.Proofs.YtkkfoonaobehaaaDoor.Bits Go.Proofs.YtkkfoonaobehaaaDoor.Low Go.Proofs.YtkkfoonaobehaaaDoor.Sets Go.Proofs.YtkkfoonaobehaaaDoor.Read Go.Proofs.YtkkfoonaobehaaaDoor.Mk Go.Proofs.YtkkfoonaobehaaaDoor.Ref
set_option maxHeartbeats 800000
set_option maxRecDepth 100000
set_option linter.unusedVariables false
set_option linter.unusedSimpArgs false
theorem mod_any (n m : Int) (h0 : 0 < m) (h1 : m ≤ 1000) (w : World) :
    Calls Tryd.prog 44 #[.int .i64 n, .int .i64 m] w fun e w' => e = .returned (.int .i64 (n % m)) ∧ w = w' := by
  have hm : (m == 0) = false := by simp; omega
  have hb1 : n.tmod m < m := Int.tmod_lt_of_pos n h0
  have hb2 : -m < n.tmod m := by
    have := Int.tmod_lt_of_pos (-n) h0
    rw [Int.neg_tmod] at this
    omega
  have hE : n.tmod m % m = n % m := by
    have := Int.tmod_add_mul_tdiv n m
    have h2 : n.tmod m = n - m * (n.tdiv m) := by omega
    rw [h2, Int.sub_mul_emod_self_left]
  have HE := Aside0.mk hE
  clear hE
  go_enter Tryd.func44, Tryd.ntmps44
  go_wp2_with fail
  · go_ret
    refine ⟨?_, rfl⟩
    have hs : n.tmod m < 0 := by assumption
    have hfin : n % m = n.tmod m + m := by rw [← HE.out, ← Int.add_emod_right, Int.emod_eq_of_lt (by omega) (by omega)]
    rw [hfin]
    rfl
  · go_ret
    refine ⟨?_, rfl⟩
    rw [← HE.out, Int.emod_eq_of_lt (by assumption) hb1]
    rfl
theorem mod_any2 (n m : Int) (h0 : 0 < m) (h1 : m ≤ 1000) (w : World) :
    Calls Tryd.prog 44 #[.int .i64 n, .int .i64 m] w fun e w' => e = .returned (.int .i64 (n % m)) ∧ w' = w := (mod_any n m h0 h1 w).mono fun _ _ h => ⟨h.1, h.2.symm⟩
/-- What one pair yields. -/
def mdE (n : Int) (e : Int × Int) : List (Int × Int) := if e.1 % n = e.2 % n then [] else [(e.1 % n, e.2 % n)]
def mdL (n : Int) (E : List (Int × Int)) : List (Int × Int) := (E.map (mdE n)).flatten
theorem mdL_step (n : Int) (E : List (Int × Int)) (k : Nat) (h : k < E.length) : mdL n (E.take (k + 1)) = mdL n (E.take k) ++ mdE n (E.getD k (0, 0)) := by
  rw [List.take_succ_eq_append_getElem h]
  rw [mdL, mdL, List.map_append, List.flatten_append]
  simp [List.getD_eq_getElem?_getD, List.getElem?_eq_getElem h]
theorem mdL_len (n : Int) (E : List (Int × Int)) : (mdL n E).length ≤ E.length := by
  induction E with
  | nil => simp [mdL]
  | cons e E ih =>
    have : (mdE n e).length ≤ 1 := by unfold mdE; split <;> simp
    simp only [mdL, List.map_cons, List.flatten_cons, List.length_append, List.length_cons] at *
    omega
theorem mdL_mem {n : Int} {E : List (Int × Int)} {e : Int × Int} (h0 : 1 < n) (h : e ∈ mdL n E) : 0 ≤ e.1 ∧ 0 ≤ e.2 ∧ e.1 < n ∧ e.2 < n ∧ e.1 ≠ e.2 := by
  simp only [mdL, List.mem_flatten, List.mem_map] at h
  obtain ⟨l, ⟨x, _, rfl⟩, he⟩ := h
  unfold mdE at he
  split at he
  · simp at he
  · rename_i hne
    obtain rfl : e = _ := by simpa using he
    have a := Int.emod_nonneg x.1 (show n ≠ 0 by omega)
    have b := Int.emod_nonneg x.2 (show n ≠ 0 by omega)
    have c := Int.emod_lt_of_pos x.1 (show 0 < n by omega)
    have d := Int.emod_lt_of_pos x.2 (show 0 < n by omega)
    exact ⟨a, b, c, d, hne⟩
theorem mdL_ok (n : Int) (E : List (Int × Int)) (h0 : 0 ≤ n) (h1 : n ≤ 64) : mkC n (if 1 < n then mdL n E else []) = 0 := by
  rw [mkC, if_neg (by omega)]
  by_cases q : 1 < n
  · rw [if_pos q, if_pos, if_neg]
    · simp only [List.any_eq_true, not_exists, not_and]
      intro e he
      simp [loopE, (mdL_mem q he).2.2.2.2]
    · rw [List.all_eq_true]
      intro e he
      have := mdL_mem q he
      simp [inR, this]
  · simp [q]
theorem mk_okG (n : Nat) (E : List (Int × Int)) (hn : n ≤ 64) (h : mkC n E = 0) : okG n (mkE n E) = true := by
  rw [mkE, if_pos h, Int.toNat_natCast]
  apply GrP.okG_edges _ _ hn
  intro i j hb
  have hall : E.all (inR n) = true := by
    rw [mkC, if_neg (by omega)] at h
    by_cases q : E.all (inR n) = true
    · exact q
    · rw [if_neg q] at h; cases h
  by_cases q : j < n
  · exact q
  · have := joins_bits n E f0 hall (by intro i j _; simp [f0]) i j (by omega)
    rw [this] at hb
    cases hb
/-- The graph that 'made' yields of more than no numbers. -/
def mdG (n : Int) (E : List (Int × Int)) : List (Int × Int) := mkE (n % 9) (if 1 < n % 9 then mdL (n % 9) E else [])
theorem mdG_ok (n : Int) (E : List (Int × Int)) : okG (n % 9) (mdG n E) = true := by
  obtain ⟨m, hm⟩ := Int.eq_ofNat_of_zero_le (Int.emod_nonneg n (show (9 : Int) ≠ 0 by decide))
  have h2 := Int.emod_lt_of_pos n (show (0 : Int) < 9 by decide)
  rw [mdG, hm]
  exact mk_okG m _ (by omega) (mdL_ok _ _ (by omega) (by omega))
theorem made_any (n : Int) (E : List (Int × Int)) (A : Option Addr) (c : Nat) (w : World) (hE : KE.C w A E.length E) (hl : E.length ≤ 40) :
    Calls Tryd.prog 16 #[.int .i64 n, .slice A E.length c] w fun e w' => ∃ v, e = .returned (.tuple #[.agg #[.int .i64 (n % 9), v], .bool true]) ∧ Kd.R KE 46 w' w.heap.size (fun _ => True) v (mdG n E) ∧ Below w.heap.size w w' := by
  have HC := Aside0.mk hE
  clear hE
  have hd : decide ((40 : Int) < (E.length : Int)) = false := by simp; omega
  have hm0 := Int.emod_nonneg n (show (9 : Int) ≠ 0 by decide)
  have hm1 := Int.emod_lt_of_pos n (show (0 : Int) < 9 by decide)
  have hmod := mod_any n 9 (by decide) (by decide)
  have hok := mdL_ok (n % 9) E hm0 (by omega)
  have hG : mdG n E = mkE (n % 9) (if 1 < n % 9 then mdL (n % 9) E else []) := rfl
  rw [hG]
  clear hG
  have HMOD := Aside0.mk hmod
  clear hmod
  generalize n % 9 = m at *
  by_cases h1 : 1 < m
  · rw [if_pos h1] at hok ⊢
    have d1 : decide (1 < m) = true := by simpa using h1
    have hmk := fun (A1 : Option Addr) (c1 : Nat) (w1 : World) (hx : KE.C w1 A1 (mdL m E).length (mdL m E)) => refmake_any m (mdL m E) A1 c1 w1 hx (by have := mdL_len m E; omega)
    rw [hok, show mkN m (mdL m E) = m by rw [mkN, if_pos hok]] at hmk
    have HMK := Aside0.mk hmk
    clear hok hmk
    obtain ⟨F, hF⟩ : ∃ F, F = mkE m (mdL m E) := ⟨_, rfl⟩
    rw [← hF] at HMK ⊢
    clear hF
    go_enter Tryd.func16, Tryd.ntmps16
    go_wp2_with (go_at_call 44; go_must (refine (HMOD.out _).mono ?_); rintro e w1 ⟨rfl, rfl⟩)
    clear hd
    go_loopw [6, 7, 8, 9] (fun v i _ _ wr => ∃ k : Nat, i = .int .i64 k ∧ k ≤ E.length ∧ Kd.R KE 46 wr (w.heap.size + 1) (fun _ => True) v (mdL m (E.take k)) ∧ Aside0 (wr.heap[w.heap.size]? = some (.cells #[.int .i64 0, .slice none 0 0] 25 (0, 0))) ∧ Below w.heap.size w wr ∧ w.heap.size + 1 ≤ wr.heap.size) (fun _ i _ _ _ => E.length - (intOf i).toNat)
    case atStart => exact ⟨0, rfl, by omega, Kd.R_nil _ _ _ _ _, ⟨blk_at rfl⟩, (Below.refl _ _).alloc (Nat.le_refl _) _, by simp⟩
    case round =>
      obtain ⟨k, rfl, hk, HO, HG, HB, hsz⟩ := hrel
      by_cases hlt : k < E.length
      · obtain ⟨ad, ead, ha, hb⟩ := C_pair (Kd.C_below HC.out HB) k hlt
        cases ead
        have HST := Aside0.mk (mdL_step m E k hlt)
        have hlen := mdL_len m (E.take k)
        have hlen2 : (E.take k).length ≤ k := List.length_take_le _ _
        generalize E.getD k (0, 0) = p at *
        obtain ⟨x, y⟩ := p
        simp only at ha hb
        have HX := Aside0.mk (mod_any x m (by omega) (by omega))
        have HY := Aside0.mk (mod_any y m (by omega) (by omega))
        have hx1 := Int.emod_nonneg x (show m ≠ 0 by omega)
        have hy1 := Int.emod_nonneg y (show m ≠ 0 by omega)
        by_cases hxy : x % m = y % m
        · have e1 : mdE m (x, y) = [] := by rw [mdE, if_pos hxy]
          have HS2 : Aside0 (mdL m (E.take (k + 1)) = mdL m (E.take k)) := ⟨by rw [HST.out, e1, List.append_nil]⟩
          have d2 : ((x % m : Int) != y % m) = false := by simp [hxy]
          clear HST e1 hxy
          go_wp2_with fail
          go_quiet ((go_at_call 44; exact Calls.quiet_of_same (mod_any2 _ m (by omega) (by omega) _)))
          go_wp2_with fail
          exact ⟨⟨k + 1, by go_num, by omega, by rw [HS2.out]; exact Kd.R_drewN HO _, ⟨blk_drewN HG.out _⟩, pw_below_drewN HB _, hsz⟩, by simp [intOf]; omega⟩
        · have e1 : mdE m (x, y) = [(x % m, y % m)] := by rw [mdE, if_neg hxy]
          have HS2 : Aside0 (mdL m (E.take (k + 1)) = mdL m (E.take k) ++ [(x % m, y % m)]) := ⟨by rw [HST.out, e1]⟩
          have d2 : ((x % m : Int) != y % m) = true := by simp [hxy]
          clear HST e1 hxy
          go_wp2_with fail
          go_quiet ((go_at_call 44; exact Calls.quiet_of_same (mod_any2 _ m (by omega) (by omega) _)))
          have HO1 : Kd.R KE 46 (wr.drewN nq) (w.heap.size + 1) (fun _ => True) u6 (mdL m (E.take k)) := Kd.R_drewN HO _
          go_wp2_with (at_builtin; go_must (refine Kd.R_append KE (w.heap.size + 1) (by rfl) (.tmp 45) (.tmp 49) 22 46 (.agg #[.int .i64 0, .int .i64 0]) 16 (by rfl) Tryd.underlying22 i46 rfl (by decide) (by decide) _ (mdL m (E.take k)) (x % m, y % m) [.int .i64 (x % m), .int .i64 (y % m)] (fun _ => True) (fun _ => False) (by rfl) (by rfl) ⟨[.int .i64 (x % m)], [.int .i64 (y % m)], rfl, rfl, rfl⟩ (fun _ h => h.elim) (fun _ _ => trivial) HO1 (Below.refl _ _) hsz (by omega) ?_); intro v1 w3 HO3 HB3 hgr _)
          obtain ⟨inn, how⟩ := Kd.R_own HO1
          exact ⟨⟨k + 1, by go_num, by omega, by rw [HS2.out]; exact HO3, ⟨blk_grown (blk_drewN HG.out _) hgr (fun e => by have := own_base how _ e.symm; omega)⟩, (pw_below_drewN HB _).grown hgr HB.size (fun q hq => by have := own_base how q hq; omega), by have := hgr.size; simp at this; omega⟩, by simp [intOf]; omega⟩
      · obtain rfl : k = E.length := by omega
        rw [List.take_length] at HO
        obtain ⟨A1, c1, rfl, hc1, hC1⟩ := Kd.R_reads HO
        go_wp2_with (first
          | (go_at_call 14; go_must (refine (HMK.out A1 c1 _ hC1).mono ?_); rintro e w2 ⟨v2, rfl, HO2, HB2⟩; obtain ⟨A2, c2, rfl, hc2, hC2⟩ := Kd.R_reads HO2
             have Z := blk_alloc (blk_below HG.out HB2) (.cells #[.int .i64 m, .slice A2 F.length c2] 25)
             have z0 : (w2.alloc (.cells #[.int .i64 m, .slice A2 F.length c2] 25)).cell? ⟨w.heap.size, 0, none⟩ = some (.int .i64 0) := by simpa using blk_cell Z 0
             have z1 : (w2.alloc (.cells #[.int .i64 m, .slice A2 F.length c2] 25)).cell? ⟨w.heap.size, 1, none⟩ = some (.slice none 0 0) := by simpa using blk_cell Z 1
             have zf0 := blk_frozen Z 0
             have zf1 := blk_frozen Z 1
             have HZ := Aside0.mk Z
             clear Z))
        have H8 := blk_set (blk_set HZ.out 0 (.int .i64 m)) 1 (.slice A2 F.length c2)
        refine bodyPost_ret (results_ct rfl _ _ w.heap.size 25 #[.int .i64 m, .slice A2 F.length c2] (0, 0) _ (by simp) (by simpa using H8) Tryd.underlying25 rfl (by kernel_rfl)) rfl ?_
        have HBf := (below_then HB HB.size HB2).alloc (below_then HB HB.size HB2).size (.cells #[.int .i64 m, .slice A2 F.length c2] 25)
        refine ⟨_, rfl, ?_, (HBf.setCell (by simp) _).setCell (by simp) _⟩
        exact Kd.R_set (Kd.R_set (Kd.R_alloc (Kd.R_lower HO2 HB.size) _) HZ.out (by decide) 0 _) (blk_set HZ.out 0 _) (by decide) 1 _
  · simp only [if_neg h1] at hok ⊢
    have d1 : decide (1 < m) = false := by simpa using h1
    have hmk := fun (A1 : Option Addr) (c1 : Nat) (w1 : World) (hx : KE.C w1 A1 ([] : List (Int × Int)).length []) => refmake_any m [] A1 c1 w1 hx (by simp)
    rw [hok, show mkN m [] = m by rw [mkN, if_pos hok]] at hmk
    have HMK := Aside0.mk hmk
    clear hok hmk
    obtain ⟨F, hF⟩ : ∃ F, F = mkE m [] := ⟨_, rfl⟩
    rw [← hF] at HMK ⊢
    clear hF
    go_enter Tryd.func16, Tryd.ntmps16
    go_wp2_with (go_at_call 44; go_must (refine (HMOD.out _).mono ?_); rintro e w1 ⟨rfl, rfl⟩)
    clear hd
    go_loopw [6, 7, 8, 9] (fun v i _ _ wr => v = .slice none 0 0 ∧ i = .int .i64 0 ∧ Aside0 (wr.heap[w.heap.size]? = some (.cells #[.int .i64 0, .slice none 0 0] 25 (0, 0))) ∧ Below w.heap.size w wr) (fun _ i _ _ _ => 0)
    case atStart => exact ⟨rfl, rfl, ⟨blk_at rfl⟩, (Below.refl _ _).alloc (Nat.le_refl _) _⟩
    case round =>
      obtain ⟨rfl, rfl, HG, HB⟩ := hrel
      have HO : Kd.R KE 46 wr w.heap.size (fun _ => True) (.slice none 0 0) [] := Kd.R_nil _ _ _ _ _
      have hC1 : KE.C wr none ([] : List (Int × Int)).length [] := Kd.C_nil _ _
      by_cases hq : 0 < E.length
      · have dq : decide (0 < E.length) = true := by simpa using hq
        go_wp2_with (first
          | (go_at_call 14; go_must (refine (HMK.out none 0 _ hC1).mono ?_); rintro e w2 ⟨v2, rfl, HO2, HB2⟩; obtain ⟨A2, c2, rfl, hc2, hC2⟩ := Kd.R_reads HO2
             have Z := blk_alloc (blk_below HG.out HB2) (.cells #[.int .i64 m, .slice A2 F.length c2] 25)
             have z0 : (w2.alloc (.cells #[.int .i64 m, .slice A2 F.length c2] 25)).cell? ⟨w.heap.size, 0, none⟩ = some (.int .i64 0) := by simpa using blk_cell Z 0
             have z1 : (w2.alloc (.cells #[.int .i64 m, .slice A2 F.length c2] 25)).cell? ⟨w.heap.size, 1, none⟩ = some (.slice none 0 0) := by simpa using blk_cell Z 1
             have zf0 := blk_frozen Z 0
             have zf1 := blk_frozen Z 1
             have HZ := Aside0.mk Z
             clear Z))
        have H8 := blk_set (blk_set HZ.out 0 (.int .i64 m)) 1 (.slice A2 F.length c2)
        refine bodyPost_ret (results_ct rfl _ _ w.heap.size 25 #[.int .i64 m, .slice A2 F.length c2] (0, 0) _ (by simp) (by simpa using H8) Tryd.underlying25 rfl (by kernel_rfl)) rfl ?_
        have HBf := (below_then HB HB.size HB2).alloc (below_then HB HB.size HB2).size (.cells #[.int .i64 m, .slice A2 F.length c2] 25)
        refine ⟨_, rfl, ?_, (HBf.setCell (by simp) _).setCell (by simp) _⟩
        exact Kd.R_set (Kd.R_set (Kd.R_alloc (Kd.R_lower HO2 HB.size) _) HZ.out (by decide) 0 _) (blk_set HZ.out 0 _) (by decide) 1 _
      · have dq : decide (0 < E.length) = false := by simp only [decide_eq_false_iff_not]; omega
        go_wp2_with (first
          | (go_at_call 14; go_must (refine (HMK.out none 0 _ hC1).mono ?_); rintro e w2 ⟨v2, rfl, HO2, HB2⟩; obtain ⟨A2, c2, rfl, hc2, hC2⟩ := Kd.R_reads HO2
             have Z := blk_alloc (blk_below HG.out HB2) (.cells #[.int .i64 m, .slice A2 F.length c2] 25)
             have z0 : (w2.alloc (.cells #[.int .i64 m, .slice A2 F.length c2] 25)).cell? ⟨w.heap.size, 0, none⟩ = some (.int .i64 0) := by simpa using blk_cell Z 0
             have z1 : (w2.alloc (.cells #[.int .i64 m, .slice A2 F.length c2] 25)).cell? ⟨w.heap.size, 1, none⟩ = some (.slice none 0 0) := by simpa using blk_cell Z 1
             have zf0 := blk_frozen Z 0
             have zf1 := blk_frozen Z 1
             have HZ := Aside0.mk Z
             clear Z))
        have H8 := blk_set (blk_set HZ.out 0 (.int .i64 m)) 1 (.slice A2 F.length c2)
        refine bodyPost_ret (results_ct rfl _ _ w.heap.size 25 #[.int .i64 m, .slice A2 F.length c2] (0, 0) _ (by simp) (by simpa using H8) Tryd.underlying25 rfl (by kernel_rfl)) rfl ?_
        have HBf := (below_then HB HB.size HB2).alloc (below_then HB HB.size HB2).size (.cells #[.int .i64 m, .slice A2 F.length c2] 25)
        refine ⟨_, rfl, ?_, (HBf.setCell (by simp) _).setCell (by simp) _⟩
        exact Kd.R_set (Kd.R_set (Kd.R_alloc (Kd.R_lower HO2 HB.size) _) HZ.out (by decide) 0 _) (blk_set HZ.out 0 _) (by decide) 1 _
theorem made_big (n : Int) (E : List (Int × Int)) (A : Option Addr) (c : Nat) (w : World) (hl : 40 < E.length) :
    Calls Tryd.prog 16 #[.int .i64 n, .slice A E.length c] w fun e w' => e = .returned (.tuple #[.agg #[.int .i64 0, .slice none 0 0], .bool false]) ∧ Below w.heap.size w w' := by
  have hd : decide ((40 : Int) < (E.length : Int)) = true := by simp; omega
  have HMOD := Aside0.mk (mod_any n 9 (by decide) (by decide))
  generalize n % 9 = m at *
  clear hl
  go_enter Tryd.func16, Tryd.ntmps16
  have Z := blk_new w (.cells #[.int .i64 0, .slice none 0 0] 25)
  have zf0 := blk_frozen Z 0
  have zf1 := blk_frozen Z 1
  have HZ := Aside0.mk Z
  clear Z
  go_wp2_with (go_at_call 44; go_must (refine (HMOD.out _).mono ?_); rintro e w1 ⟨rfl, rfl⟩)
  refine bodyPost_ret (results_ct rfl _ _ w.heap.size 25 #[.int .i64 0, .slice none 0 0] (0, 0) _ (by simp) HZ.out Tryd.underlying25 rfl (by kernel_rfl)) rfl ?_
  exact ⟨rfl, (Below.refl _ _).alloc (Nat.le_refl _) _⟩
end Go.Proofs.YtkkfoonaobehaaaDoor.Made
