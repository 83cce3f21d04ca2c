import Derived.Test.YtkkfoonaobehaaaDoorKeep
namespace Go.Proofs.YtkkfoonaobehaaaDoor.Val
open Go.RowKit Go.Proofs.YtkkfoonaobehaaaDoorW.PrintWords Go.Proofs.YtkkfoonaobehaaaDoor.Bits Go.Proofs.YtkkfoonaobehaaaDoor.Low Go.Proofs.YtkkfoonaobehaaaDoor.Sets Go.Proofs.YtkkfoonaobehaaaDoor.Cmp Go.Proofs.YtkkfoonaobehaaaDoor.Read Go.Proofs.YtkkfoonaobehaaaDoor.Keep
open Go.Proofs.YtkkfoonaobehaaaDoor.Kit (store_row R_grownB grownBy_set)
set_option maxHeartbeats 800000
set_option maxRecDepth 100000
set_option linter.unusedVariables false

theorem lex_two (a b c d : Int) : decide (lexCmp [a, b] [c, d] < 0) = (decide (a < c) || (a == c) && decide (b < d)) := by
  by_cases h1 : a < c
  · simp [lexCmp, h1]
  · by_cases h2 : c < a
    · have : ¬ a = c := by omega
      simp [lexCmp, h1, h2, this]
    · obtain rfl : a = c := by omega
      by_cases h3 : b < d
      · simp [lexCmp, h3]
      · by_cases h4 : d < b
        · simp [lexCmp, h3, h4]
        · simp [lexCmp, h3, h4]
theorem valid_any (n : Int) (E : List (Int × Int)) (A : Option Addr) (c : Nat) (w : World) (hE : KE.C w A E.length E) (hl : E.length ≤ 1000000) :
    Calls Tryd.prog 29 #[.agg #[.int .i64 n, .slice A E.length c]] w fun e w' => e = .returned (.bool (okG n E)) ∧ Below w.heap.size w w' := by
  have HC := Aside0.mk hE
  have hread := read_any n E A c
  have HR := Aside0.mk hread
  clear hE hread
  generalize okG n E = t at *
  go_enter Tryd.func29, Tryd.ntmps29
  go_wp2_with (first
    | (go_at_call 47; go_must (refine (HR.out _ (Kd.C_below HC.out ((Below.refl _ _).alloc (Nat.le_refl _) _)) hl).mono ?_); rintro e w1 ⟨s, rfl, hs, HB1⟩)
    | (with_reducible refine gate_ (.store 55 (.tmp 3) (.tmp 8)) rfl ?_; go_must (refine store_row rfl 55 (.tmp 3) (.tmp 8) rfl w1.heap.size 55 (setsV f0) (setsV s) (by simp [Act.eval]) (by simp [Act.eval]) (blk_at rfl) rfl (by kernel_rfl) (setsV_one s) ?_)
       intro w2 hw2 hg2
       have HBw : Below w.heap.size w w1 := below_then ((Below.refl _ _).alloc (Nat.le_refl _) _) (by simp) HB1
       have HB2 : Below w.heap.size w w2 := (HBw.alloc HBw.size _).grown hg2 (by have := HBw.size; simp; omega) (fun q hq => by injection hq with hq; have := HBw.size; omega)
       clear hw2 hg2 HB1 HR HBw hs))
  go_ret
  exact ⟨by rfl, HB2⟩
theorem smallg_any (n : Int) (E : List (Int × Int)) (A : Option Addr) (c : Nat) (w : World) :
    Calls Tryd.prog 36 #[.agg #[.int .i64 n, .slice A E.length c]] w fun e w' => e = .returned (.bool (decide (n ≤ 9) && decide (E.length ≤ 40))) ∧ Below w.heap.size w w' := by
  obtain ⟨r, hr⟩ : ∃ r, r = (decide (n ≤ 9) && decide (E.length ≤ 40)) := ⟨_, rfl⟩
  have HR := Aside0.mk hr
  rw [← hr]
  clear hr
  by_cases h1 : n ≤ 9
  · have d1 : decide (n ≤ 9) = true := by simpa using h1
    have hr : r = decide (E.length ≤ 40) := by rw [HR.out, d1, Bool.true_and]
    by_cases h2 : E.length ≤ 40
    · have d2 : decide ((E.length : Int) ≤ 40) = true := by simp; omega
      have HR2 := Aside0.mk (hr.trans (decide_eq_true h2))
      clear hr h1 h2
      go_enter Tryd.func36, Tryd.ntmps36
      go_wp2_with fail
      go_ret
      exact ⟨by rw [HR2.out]; rfl, (Below.refl _ _).alloc (Nat.le_refl _) _⟩
    · have d2 : decide ((E.length : Int) ≤ 40) = false := by simp; omega
      have HR2 := Aside0.mk (hr.trans (decide_eq_false h2))
      clear hr h1 h2
      go_enter Tryd.func36, Tryd.ntmps36
      go_wp2_with fail
      go_ret
      exact ⟨by rw [HR2.out]; rfl, (Below.refl _ _).alloc (Nat.le_refl _) _⟩
  · have d1 : decide (n ≤ 9) = false := by simpa using h1
    have hr : r = false := by rw [HR.out, d1, Bool.false_and]
    have HR2 := Aside0.mk hr
    clear hr h1
    go_enter Tryd.func36, Tryd.ntmps36
    go_wp2_with fail
    go_ret
    exact ⟨by rw [HR2.out]; rfl, (Below.refl _ _).alloc (Nat.le_refl _) _⟩
theorem rvalid_any (n : Int) (E : List (Int × Int)) (A : Option Addr) (c : Nat) (w : World) (hE : KE.C w A E.length E) (hl : E.length ≤ 1000000) :
    Calls Tryd.prog 35 #[.agg #[.int .i64 n, .slice A E.length c]] w fun e w' => e = .returned (.bool (okG n E)) ∧ Below w.heap.size w w' := by
  have HC := Aside0.mk hE
  clear hE
  obtain ⟨r, hr⟩ : ∃ r, r = okG n E := ⟨_, rfl⟩
  have HR := Aside0.mk hr
  rw [← hr]
  clear hr
  by_cases h1 : n < 0
  · have d1 : decide (n < 0) = true := by simpa using h1
    have hr : r = false := by rw [HR.out, okG, decide_eq_false (by omega)]; rfl
    have HR2 := Aside0.mk hr
    clear hr h1
    go_enter Tryd.func35, Tryd.ntmps35
    go_wp2_with fail
    go_ret
    exact ⟨by rw [HR2.out]; rfl, (Below.refl _ _).alloc (Nat.le_refl _) _⟩
  by_cases h2 : 64 < n
  · have d1 : decide (n < 0) = false := by simpa using h1
    have d2 : decide (64 < n) = true := by simpa using h2
    have hr : r = false := by rw [HR.out, okG, decide_eq_false (show ¬ n ≤ 64 by omega), Bool.and_false]; rfl
    have HR2 := Aside0.mk hr
    clear hr h1 h2
    go_enter Tryd.func35, Tryd.ntmps35
    go_wp2_with fail
    go_ret
    exact ⟨by rw [HR2.out]; rfl, (Below.refl _ _).alloc (Nat.le_refl _) _⟩
  have d1 : decide (n < 0) = false := by simpa using h1
  have d2 : decide (64 < n) = false := by simpa using h2
  have hr : r = okList n none E := by rw [HR.out, okG, decide_eq_true (show 0 ≤ n by omega), decide_eq_true (show n ≤ 64 by omega)]; rfl
  have HR2 := Aside0.mk hr
  clear hr h1 h2 HR
  go_enter Tryd.func35, Tryd.ntmps35
  go_wp2_with fail
  clear d1 d2
  go_loopw [3, 4, 5] (fun i _ _ wr => ∃ k : Nat, i = .int .i64 k ∧ k ≤ E.length ∧ Aside0 (r = okList n (if k = 0 then none else some (E.getD (k - 1) (0, 0))) (E.drop k)) ∧ wr.heap[w.heap.size]? = some (.cells #[.int .i64 n, .slice A E.length c] 25 (0, 0)) ∧ Below w.heap.size w wr) (fun i _ _ _ => E.length - (intOf i).toNat)
  case atStart => exact ⟨0, rfl, by omega, ⟨HR2.out⟩, blk_at rfl, (Below.refl _ _).alloc (Nat.le_refl _) _⟩
  case round =>
    obtain ⟨k, rfl, hk, HK, hG, hB⟩ := hrel
    have g0 : wr.cell? ⟨w.heap.size, 0, none⟩ = some (.int .i64 n) := by simpa using blk_cell hG 0
    have g1 : wr.cell? ⟨w.heap.size, 1, none⟩ = some (.slice A E.length c) := by simpa using blk_cell hG 1
    have HG := Aside0.mk hG
    clear hG
    by_cases hlt : k < E.length
    · have HO := Aside0.mk (ok_step n E k hlt)
      have hpv : 0 < k → ∃ ad, A = some ad ∧ wr.cell? (ad.add ((k - 1) * 2)) = some (.int .i64 (E.getD (k - 1) (0, 0)).1) ∧ wr.cell? ⟨(ad.add ((k - 1) * 2)).block, (ad.add ((k - 1) * 2)).off + 1, none⟩ = some (.int .i64 (E.getD (k - 1) (0, 0)).2) := fun h0 => C_pair (Kd.C_below HC.out hB) (k - 1) (by omega)
      obtain ⟨ad, ead, ha, hb⟩ := C_pair (Kd.C_below HC.out hB) k hlt
      cases ead
      have HPV := Aside0.mk hpv
      clear hpv
      obtain ⟨ab, habe⟩ : ∃ ab, ab = E.getD k (0, 0) := ⟨_, rfl⟩
      rw [← habe] at HO ha hb
      obtain ⟨a, b⟩ := ab
      simp only at ha hb
      have HAB : Aside0 (E.getD k (0, 0) = (a, b)) := ⟨habe.symm⟩
      clear habe
      have hbk : okE n (if k = 0 then none else some (E.getD (k - 1) (0, 0))) (a, b) = false → r = false := fun h => by rw [HK.out, HO.out, h]; rfl
      have HBK := Aside0.mk hbk
      clear hbk
      by_cases q1 : a < 0
      · have d1 : decide (a < 0) = true := by simpa using q1
        have hr : r = false := HBK.out (by simp [okE]; omega)
        have HR2 := Aside0.mk hr
        clear hr HBK
        go_wp2_with fail
        go_quiet (fail)
        go_wp2_with fail
        go_ret
        exact ⟨by rw [HR2.out]; rfl, pw_below_drewN hB _⟩
      have d1 : decide (a < 0) = false := by simpa using q1
      by_cases q2 : b ≤ a
      · have d2 : decide (b ≤ a) = true := by simpa using q2
        have hr : r = false := HBK.out (by simp [okE]; omega)
        have HR2 := Aside0.mk hr
        clear hr HBK
        go_wp2_with fail
        go_quiet (fail)
        go_wp2_with fail
        go_ret
        exact ⟨by rw [HR2.out]; rfl, pw_below_drewN hB _⟩
      have d2 : decide (b ≤ a) = false := by simpa using q2
      by_cases q3 : n ≤ b
      · have d3 : decide (n ≤ b) = true := by simpa using q3
        have hr : r = false := HBK.out (by simp [okE]; omega)
        have HR2 := Aside0.mk hr
        clear hr HBK
        go_wp2_with fail
        go_quiet (fail)
        go_wp2_with fail
        go_ret
        exact ⟨by rw [HR2.out]; rfl, pw_below_drewN hB _⟩
      have d3 : decide (n ≤ b) = false := by simpa using q3
      by_cases q4 : k = 0
      · have d4 : decide ((0 : Int) < (k : Int)) = false := by simp; omega
        have d5 : decide (0 < k) = false := by simp; omega
        have hok : okE n (if k = 0 then none else some (E.getD (k - 1) (0, 0))) (a, b) = true := by rw [if_pos q4]; simp [okE]; omega
        clear q4
        have HK2 : Aside0 (r = okList n (if k + 1 = 0 then none else some (E.getD (k + 1 - 1) (0, 0))) (E.drop (k + 1))) := ⟨by rw [HK.out, HO.out, hok]; rfl⟩
        clear hok HBK
        go_wp2_with fail
        go_quiet (fail)
        go_wp2_with fail
        exact ⟨⟨k + 1, by go_num, by omega, HK2, blk_drewN HG.out _, pw_below_drewN hB _⟩, by simp [intOf]; omega⟩
      have d4 : decide ((0 : Int) < (k : Int)) = true := by simp; omega
      have d5 : decide (0 < k) = true := by simp; omega
      obtain ⟨ad', ead', hpa, hpb⟩ := HPV.out (by omega)
      cases ead'
      have hokE : okE n (if k = 0 then none else some (E.getD (k - 1) (0, 0))) (a, b) = (decide ((E.getD (k - 1) (0, 0)).1 < a) || ((E.getD (k - 1) (0, 0)).1 == a) && decide ((E.getD (k - 1) (0, 0)).2 < b)) := by
        rw [if_neg q4, ← lex_two]
        have z1 : decide (0 ≤ a) = true := by simp; omega
        have z2 : decide (a < b) = true := by simp; omega
        have z3 : decide (b < n) = true := by simp; omega
        simp only [okE, z1, z2, z3, Bool.true_and]
      have hw : IntKind.i64.wrap ((k : Int) - 1) = ((k - 1 : Nat) : Int) := by rw [IntWalk.i64_in _ (by omega)]; omega
      have hw0 : (0 : Int) ≤ ((k - 1 : Nat) : Int) := by omega
      have hw1 : ((k - 1 : Nat) : Int) < (E.length : Int) := by omega
      clear q4 HPV
      generalize (E.getD (k - 1) (0, 0)).1 = pa at *
      generalize (E.getD (k - 1) (0, 0)).2 = pb at *
      by_cases q5 : a < pa
      · have d6 : decide (a < pa) = true := by simpa using q5
        have hr : r = false := HBK.out (by rw [hokE]; simp; omega)
        clear hokE q5
        have HR2 := Aside0.mk hr
        clear hr HBK
        go_wp2_with fail
        go_quiet (fail)
        go_wp2_with fail
        go_ret
        exact ⟨by rw [HR2.out]; rfl, pw_below_drewN hB _⟩
      have d6 : decide (a < pa) = false := by simpa using q5
      by_cases q6 : a = pa
      · have d7 : (a == pa) = true := by simpa using q6
        by_cases q7 : b ≤ pb
        · have d8 : decide (b ≤ pb) = true := by simpa using q7
          have hr : r = false := HBK.out (by rw [hokE]; simp; omega)
          clear hokE q5 q6 q7
          have HR2 := Aside0.mk hr
          clear hr HBK
          go_wp2_with fail
          go_quiet (fail)
          go_wp2_with fail
          go_ret
          exact ⟨by rw [HR2.out]; rfl, pw_below_drewN hB _⟩
        have d8 : decide (b ≤ pb) = false := by simpa using q7
        have hok : okE n (if k = 0 then none else some (E.getD (k - 1) (0, 0))) (a, b) = true := by rw [hokE]; simp; omega
        clear hokE q5 q6 q7
        have HK2 : Aside0 (r = okList n (if k + 1 = 0 then none else some (E.getD (k + 1 - 1) (0, 0))) (E.drop (k + 1))) := ⟨by rw [HK.out, HO.out, hok]; rfl⟩
        clear hok HBK
        go_wp2_with fail
        go_quiet (fail)
        go_wp2_with fail
        exact ⟨⟨k + 1, by go_num, by omega, HK2, blk_drewN HG.out _, pw_below_drewN hB _⟩, by simp [intOf]; omega⟩
      have d7 : (a == pa) = false := by simpa using q6
      have hok : okE n (if k = 0 then none else some (E.getD (k - 1) (0, 0))) (a, b) = true := by rw [hokE]; simp; omega
      clear hokE q5 q6
      have HK2 : Aside0 (r = okList n (if k + 1 = 0 then none else some (E.getD (k + 1 - 1) (0, 0))) (E.drop (k + 1))) := ⟨by rw [HK.out, HO.out, hok]; rfl⟩
      clear hok HBK
      go_wp2_with fail
      go_quiet (fail)
      go_wp2_with fail
      exact ⟨⟨k + 1, by go_num, by omega, HK2, blk_drewN HG.out _, pw_below_drewN hB _⟩, by simp [intOf]; omega⟩
    · obtain rfl : k = E.length := by omega
      have hr : r = true := by rw [HK.out, List.drop_length]; rfl
      have HR3 := Aside0.mk hr
      clear hr
      go_wp2_with fail
      go_ret
      exact ⟨by rw [HR3.out]; rfl, hB⟩
end Go.Proofs.YtkkfoonaobehaaaDoor.Val
