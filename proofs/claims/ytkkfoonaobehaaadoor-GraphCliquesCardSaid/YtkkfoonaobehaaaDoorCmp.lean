import Derived.Test.YtkkfoonaobehaaaDoorLow
import Derived.Deep.DeepMust
namespace Go.Proofs.YtkkfoonaobehaaaDoor.Cmp
open Go.RowKit Go.Proofs.YtkkfoonaobehaaaDoorW.PrintWords Go.Proofs.YtkkfoonaobehaaaDoor.Low
set_option maxHeartbeats 4000000
set_option maxRecDepth 100000

def cmpI (x y : Int) : Int := if x < y then -1 else if y < x then 1 else 0
def lexCmp : List Int → List Int → Int
  | [], [] => 0
  | [], _ :: _ => -1
  | _ :: _, [] => 1
  | x :: xs, y :: ys => if x < y then -1 else if y < x then 1 else lexCmp xs ys

theorem nan_any (x : Int) (w : World) : Calls Tryd.prog 76 #[.int .i64 x] w fun e w' => e = .returned (.bool false) ∧ w = w' := by
  go_enter Tryd.func76, Tryd.ntmps76
  go_wp2
  go_ret
  exact ⟨by simp, rfl⟩
theorem cmp_any (x y : Int) (w : World) : Calls Tryd.prog 62 #[.int .i64 x, .int .i64 y] w fun e w' => e = .returned (.int .i64 (cmpI x y)) ∧ w = w' := by
  have HS : Aside0 (cmpI x y = if x < y then -1 else if y < x then 1 else 0) := ⟨rfl⟩
  generalize cmpI x y = c at *
  by_cases h1 : x < y
  · go_enter Tryd.func62, Tryd.ntmps62
    go_wp2_with (go_at_call 76; refine (nan_any _ _).mono ?_; rintro e w' ⟨rfl, rfl⟩)
    go_ret
    refine ⟨?_, rfl⟩
    rw [HS.out, if_pos h1]
    rfl
  · by_cases h2 : y < x
    · go_enter Tryd.func62, Tryd.ntmps62
      go_wp2_with (go_at_call 76; refine (nan_any _ _).mono ?_; rintro e w' ⟨rfl, rfl⟩)
      go_ret
      refine ⟨?_, rfl⟩
      rw [HS.out, if_neg (by omega), if_pos h2]
      rfl
    · go_enter Tryd.func62, Tryd.ntmps62
      go_wp2_with (go_at_call 76; refine (nan_any _ _).mono ?_; rintro e w' ⟨rfl, rfl⟩)
      go_ret
      refine ⟨?_, rfl⟩
      rw [HS.out, if_neg (by omega), if_neg (by omega)]
      rfl

theorem lex_drop (xs ys : List Int) (k : Nat) (h1 : k < xs.length) (h2 : k < ys.length) : lexCmp (xs.drop k) (ys.drop k) = if cmpI (rd xs k) (rd ys k) = 0 then lexCmp (xs.drop (k + 1)) (ys.drop (k + 1)) else cmpI (rd xs k) (rd ys k) := by
  rw [List.drop_eq_getElem_cons h1, List.drop_eq_getElem_cons h2, lexCmp]
  simp only [rd, Int.toNat_natCast, List.getD_eq_getElem?_getD, List.getElem?_eq_getElem h1, List.getElem?_eq_getElem h2, Option.getD_some, cmpI]
  by_cases a : xs[k] < ys[k]
  · simp [a]
  · by_cases b : ys[k] < xs[k] <;> simp [a, b]
theorem lex_short (xs ys : List Int) (k : Nat) (h1 : k < xs.length) (h2 : ys.length ≤ k) : lexCmp (xs.drop k) (ys.drop k) = 1 := by
  rw [List.drop_eq_getElem_cons h1, List.drop_eq_nil_of_le h2, lexCmp]
theorem lex_end (xs ys : List Int) (k : Nat) (h1 : xs.length ≤ k) (h2 : k < ys.length) : lexCmp (xs.drop k) (ys.drop k) = -1 := by
  rw [List.drop_eq_nil_of_le h1, List.drop_eq_getElem_cons h2, lexCmp]
theorem lex_done (xs ys : List Int) (k : Nat) (h1 : xs.length ≤ k) (h2 : ys.length ≤ k) : lexCmp (xs.drop k) (ys.drop k) = 0 := by
  rw [List.drop_eq_nil_of_le h1, List.drop_eq_nil_of_le h2, lexCmp]

theorem compare_any (xs ys : List Int) (A B : Option Addr) (c d : Nat) (w : World) (hx : KI.C w A xs.length xs) (hy : KI.C w B ys.length ys) (lx : xs.length ≤ 1000000) (ly : ys.length ≤ 1000000) :
    Calls Tryd.prog 52 #[.slice A xs.length c, .slice B ys.length d] w fun e w' => e = .returned (.int .i64 (lexCmp xs ys)) ∧ w = w' := by
  have HX := Aside0.mk hx
  have HY := Aside0.mk hy
  clear hx hy
  obtain ⟨r, hr⟩ : ∃ r, r = lexCmp xs ys := ⟨_, rfl⟩
  have HR := Aside0.mk hr
  rw [← hr]
  clear hr
  go_enter Tryd.func52, Tryd.ntmps52
  go_wp2
  go_loop [5, 6, 7, 8, 11] (fun _ _ _ _ i => ∃ k : Nat, i = .int .i64 k ∧ k ≤ xs.length ∧ k ≤ ys.length ∧ Aside0 (r = lexCmp (xs.drop k) (ys.drop k))) (fun _ _ _ _ i => xs.length - (intOf i).toNat)
  case atStart => exact ⟨0, rfl, by omega, by omega, ⟨by simpa using HR.out⟩⟩
  case round =>
    obtain ⟨k, rfl, hk1, hk2, HK⟩ := hrel
    by_cases h1 : k < xs.length
    · obtain ⟨ad, ead, hc⟩ := Kd.at_int HX.out k (by omega) (by omega)
      simp only [Int.toNat_natCast] at hc
      cases ead
      by_cases h2 : k < ys.length
      · obtain ⟨ad2, ead2, hc2⟩ := Kd.at_int HY.out k (by omega) (by omega)
        simp only [Int.toNat_natCast] at hc2
        cases ead2
        have HD := Aside0.mk (lex_drop xs ys k h1 h2)
        generalize rd xs k = x at *
        generalize rd ys k = y at *
        by_cases h3 : cmpI x y = 0
        · have hcmp := cmp_any x y w
          rw [h3] at hcmp
          have hD := HD.out
          rw [if_pos h3] at hD
          have HD' := Aside0.mk hD
          clear HD hD h3
          go_wp2_with (go_at_call 62; refine hcmp.mono ?_; rintro e w' ⟨rfl, rfl⟩)
          go_round
          case rel => exact ⟨k + 1, by go_num, by omega, by omega, ⟨by rw [HK.out, HD'.out]⟩⟩
          case measure => simp [intOf]; omega
        · have hcmp := cmp_any x y w
          have hD := HD.out
          rw [if_neg h3] at hD
          have HD' := Aside0.mk hD
          have h4 : (cmpI x y == 0) = false := by simpa using h3
          have h5 : (cmpI x y != 0) = true := by simpa using h3
          clear HD hD h3
          generalize cmpI x y = z at *
          go_wp2_with (go_at_call 62; refine hcmp.mono ?_; rintro e w' ⟨rfl, rfl⟩)
          go_ret
          exact ⟨by rw [HK.out, HD'.out]; rfl, rfl⟩
      · have HD := Aside0.mk (lex_short xs ys k h1 (by omega))
        have h2' : ys.length ≤ k := by omega
        go_wp2
        go_ret
        exact ⟨by rw [HK.out, HD.out]; rfl, rfl⟩
    · obtain rfl : k = xs.length := by omega
      by_cases h2 : xs.length < ys.length
      · have HD := Aside0.mk (lex_end xs ys xs.length (by omega) h2)
        go_wp2
        go_ret
        exact ⟨by rw [HK.out, HD.out]; rfl, rfl⟩
      · have HD := Aside0.mk (lex_done xs ys xs.length (by omega) (by omega))
        go_wp2
        go_ret
        exact ⟨by rw [HK.out, HD.out]; rfl, rfl⟩
end Go.Proofs.YtkkfoonaobehaaaDoor.Cmp
