import Derived.Test.YtkkfoonaobehaaaDoorKeep
namespace Go.Proofs.YtkkfoonaobehaaaDoor.Com
open Go.RowKit Go.Proofs.YtkkfoonaobehaaaDoorW.PrintWords Go.Proofs.YtkkfoonaobehaaaDoor.Bits Go.Proofs.YtkkfoonaobehaaaDoor.Low Go.Proofs.YtkkfoonaobehaaaDoor.Sets Go.Proofs.YtkkfoonaobehaaaDoor.Sort Go.Proofs.YtkkfoonaobehaaaDoor.Tr Go.Proofs.YtkkfoonaobehaaaDoor.Keep
set_option maxHeartbeats 800000
set_option maxRecDepth 100000
set_option linter.unusedVariables false

/-- How many times a value stands in a list. -/
def cnt (x : Int) (ys : List Int) : Nat := ys.countP (fun y => x == y)
def comm (xs ys : List Int) : Nat := (xs.map fun x => cnt x ys).sum
theorem cnt_step (x : Int) (ys : List Int) (k : Nat) (h : k < ys.length) : cnt x (ys.take (k + 1)) = cnt x (ys.take k) + if (x == ys.getD k 0) = true then 1 else 0 := by
  rw [List.take_succ_eq_append_getElem h, cnt, List.countP_append, ← cnt]
  simp [List.getD_eq_getElem?_getD, List.getElem?_eq_getElem h, List.countP_cons]
theorem comm_step (xs ys : List Int) (k : Nat) (h : k < xs.length) : comm (xs.take (k + 1)) ys = comm (xs.take k) ys + cnt (xs.getD k 0) ys := by
  rw [List.take_succ_eq_append_getElem h, comm, List.map_append, List.sum_append, ← comm]
  simp [List.getD_eq_getElem?_getD, List.getElem?_eq_getElem h]
theorem cnt_le (x : Int) (ys : List Int) : cnt x ys ≤ ys.length := List.countP_le_length
theorem comm_le (xs ys : List Int) : comm xs ys ≤ xs.length * ys.length := by
  induction xs with
  | nil => simp [comm]
  | cons x xs ih =>
    have h1 : comm (x :: xs) ys = cnt x ys + comm xs ys := by simp [comm]
    have h2 := cnt_le x ys
    rw [h1, List.length_cons, Nat.add_mul, Nat.one_mul]
    omega

theorem common_any (xs ys : List Int) (A B : Option Addr) (c d : Nat) (w : World) (hx : KI.C w A xs.length xs) (hy : KI.C w B ys.length ys) (lx : xs.length ≤ 1000) (ly : ys.length ≤ 1000) :
    Calls Tryd.prog 56 #[.slice A xs.length c, .slice B ys.length d] w fun e w' => e = .returned (.int .i64 (comm xs ys)) ∧ ∃ m, w' = w.drewN m := by
  have HX := Aside0.mk hx
  have HY := Aside0.mk hy
  clear hx hy
  go_enter Tryd.func56, Tryd.ntmps56
  go_wp2_with fail
  go_loopw [5, 6, 7] (fun t i _ wr => ∃ k : Nat, i = .int .i64 k ∧ k ≤ xs.length ∧ t = .int .i64 (comm (xs.take k) ys) ∧ Aside0 (∃ m, wr = w.drewN m)) (fun _ i _ _ => xs.length - (intOf i).toNat)
  case atStart => exact ⟨0, rfl, by omega, rfl, ⟨0, rfl⟩⟩
  case round =>
    obtain ⟨k, rfl, hk, rfl, HW⟩ := hrel
    by_cases hlt : k < xs.length
    · have HCS := Aside0.mk (comm_step xs ys k hlt)
      have hcl : comm (xs.take k) ys ≤ 1000000 := by
        have h1 := comm_le (xs.take k) ys
        have h2 : (xs.take k).length ≤ 1000 := by simp; omega
        exact Nat.le_trans h1 (Nat.mul_le_mul h2 ly)
      generalize comm (xs.take k) ys = s at *
      go_wp2_with fail
      obtain ⟨wo, rfl⟩ : ∃ wo : World, wo = wr := ⟨_, rfl⟩
      go_loopw [5, 7] (fun t j wr => ∃ q : Nat, j = .int .i64 q ∧ q ≤ ys.length ∧ t = .int .i64 (s + cnt (xs.getD k 0) (ys.take q) : Nat) ∧ Aside0 (∃ m, wr = w.drewN m)) (fun _ j _ => ys.length - (intOf j).toNat)
      case atStart => exact ⟨0, rfl, by omega, by simp [cnt], HW⟩
      case round =>
        obtain ⟨q, rfl, hq, rfl, HW2⟩ := hrel
        by_cases hql : q < ys.length
        · have HST := Aside0.mk (cnt_step (xs.getD k 0) ys q hql)
          have hcq : cnt (xs.getD k 0) (ys.take q) ≤ 1000 := by
            have h1 := cnt_le (xs.getD k 0) (ys.take q)
            have h2 : (ys.take q).length ≤ 1000 := by simp; omega
            omega
          obtain ⟨ad1, ead1, h1⟩ := Kd.at_int (Kd.C_below HX.out (below_drewd HW2.out)) k (by omega) (by omega)
          obtain ⟨ad2, ead2, h2⟩ := Kd.at_int (Kd.C_below HY.out (below_drewd HW2.out)) q (by omega) (by omega)
          have hr1 : rd xs k = xs.getD k 0 := by simp [rd]
          have hr2 : rd ys q = ys.getD q 0 := by simp [rd]
          rw [hr1] at h1
          rw [hr2] at h2
          simp only [Int.toNat_natCast] at h1 h2
          cases ead1
          cases ead2
          generalize cnt (xs.getD k 0) (ys.take q) = u at *
          clear hr1 hr2
          by_cases hxy : (xs.getD k 0 == ys.getD q 0) = true
          · have hst := HST.out
            rw [if_pos hxy] at hst
            have HS2 := Aside0.mk hst
            generalize xs.getD k 0 = x at *
            generalize ys.getD q 0 = y at *
            clear hst HST
            go_wp2_with fail
            go_quiet (fail)
            go_wp2_with fail
            exact ⟨⟨q + 1, by go_num, by omega, by rw [HS2.out]; go_num, ⟨drewd_more HW2.out _⟩⟩, by simp [intOf]; omega⟩
          · have hst := HST.out
            rw [if_neg hxy] at hst
            have HS2 := Aside0.mk hst
            have hxy' : (xs.getD k 0 == ys.getD q 0) = false := by simpa using hxy
            generalize xs.getD k 0 = x at *
            generalize ys.getD q 0 = y at *
            clear hst HST hxy
            go_wp2_with fail
            go_quiet (fail)
            go_wp2_with fail
            exact ⟨⟨q + 1, by go_num, by omega, by rw [HS2.out, Nat.add_zero], ⟨drewd_more HW2.out _⟩⟩, by simp [intOf]; omega⟩
        · obtain rfl : q = ys.length := by omega
          rw [List.take_length]
          go_wp2_with fail
          exact ⟨⟨k + 1, by go_num, by omega, by rw [HCS.out], HW2⟩, by simp [intOf]; omega⟩
    · obtain rfl : k = xs.length := by omega
      rw [List.take_length]
      go_wp2_with fail
      go_ret
      exact ⟨rfl, HW.out⟩
theorem small_any (L : List (List Int)) (A : Option Addr) (c : Nat) (n m : Int) (w : World) (hL : KS.C w A L.length L) (hn : L.length ≤ 9223372036854775807) :
    Calls Tryd.prog 21 #[.slice A L.length c, .int .i64 n, .int .i64 m] w fun e w' => e = .returned (.bool (decide ((L.length : Int) ≤ n) && L.all fun l => decide ((l.length : Int) ≤ m))) ∧ w = w' := by
  have HC := Aside0.mk hL
  clear hL
  obtain ⟨r, hr⟩ : ∃ r, r = (decide ((L.length : Int) ≤ n) && L.all fun l => decide ((l.length : Int) ≤ m)) := ⟨_, rfl⟩
  have HR := Aside0.mk hr
  rw [← hr]
  clear hr
  by_cases h1 : n < (L.length : Int)
  · have d1 : decide (n < (L.length : Int)) = true := by simpa using h1
    have hd : decide ((L.length : Int) ≤ n) = false := by simp; omega
    have hr : r = false := by rw [HR.out, hd]; rfl
    have HR2 := Aside0.mk hr
    clear hr hd h1
    go_enter Tryd.func21, Tryd.ntmps21
    go_wp2_with fail
    go_ret
    exact ⟨by rw [HR2.out]; rfl, rfl⟩
  · have d1 : decide (n < (L.length : Int)) = false := by simpa using h1
    have hd : decide ((L.length : Int) ≤ n) = true := by simp; omega
    have hr : r = L.all fun l => decide ((l.length : Int) ≤ m) := by rw [HR.out, hd, Bool.true_and]
    have HR2 := Aside0.mk hr
    clear hr hd h1
    go_enter Tryd.func21, Tryd.ntmps21
    go_wp2_with fail
    clear d1
    go_loop [7] (fun i => ∃ k : Nat, i = .int .i64 k ∧ k ≤ L.length ∧ Aside0 (r = (L.drop k).all fun l => decide ((l.length : Int) ≤ m))) (fun i => L.length - (intOf i).toNat)
    case atStart => exact ⟨0, rfl, by omega, ⟨HR2.out⟩⟩
    case round =>
      obtain ⟨k, rfl, hk, HK⟩ := hrel
      by_cases hlt : k < L.length
      · obtain ⟨ad, A2, c2, ead, hx, hlx, hCx⟩ := elemC HC.out k hlt
        cases ead
        have hst : ((L.drop k).all fun l => decide ((l.length : Int) ≤ m)) = (decide (((L.getD k []).length : Int) ≤ m) && (L.drop (k + 1)).all fun l => decide ((l.length : Int) ≤ m)) := by
          rw [List.drop_eq_getElem_cons hlt, List.all_cons, List.getD_eq_getElem?_getD, List.getElem?_eq_getElem hlt, Option.getD_some]
        have HST := Aside0.mk hst
        clear hst hCx
        generalize L.getD k [] = l at *
        by_cases h2 : m < (l.length : Int)
        · have d2 : decide (m < (l.length : Int)) = true := by simpa using h2
          have hd : decide ((l.length : Int) ≤ m) = false := by simp; omega
          have hr : r = false := by rw [HK.out, HST.out, hd]; rfl
          have HR3 := Aside0.mk hr
          clear hr hd h2
          go_wp2_with fail
          go_ret
          exact ⟨by rw [HR3.out]; rfl, rfl⟩
        · have d2 : decide (m < (l.length : Int)) = false := by simpa using h2
          have hd : decide ((l.length : Int) ≤ m) = true := by simp; omega
          have HK2 : Aside0 (r = (L.drop (k + 1)).all fun l => decide ((l.length : Int) ≤ m)) := ⟨by rw [HK.out, HST.out, hd, Bool.true_and]⟩
          clear hd h2
          go_wp2_with fail
          go_round
          case rel => exact ⟨k + 1, by go_num, by omega, HK2⟩
          case measure => simp [intOf]; omega
      · obtain rfl : k = L.length := by omega
        have hr : r = true := by rw [HK.out, List.drop_length]; rfl
        have HR3 := Aside0.mk hr
        clear hr
        go_wp2_with fail
        go_ret
        exact ⟨by rw [HR3.out]; rfl, rfl⟩
end Go.Proofs.YtkkfoonaobehaaaDoor.Com
