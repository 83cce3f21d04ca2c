import Derived.Test.YtkkfoonaobehaaaDoorSort
namespace Go.Proofs.YtkkfoonaobehaaaDoor.SortF
open Go.RowKit Go.Proofs.YtkkfoonaobehaaaDoorW.PrintWords Go.Proofs.YtkkfoonaobehaaaDoor.Low Go.Proofs.YtkkfoonaobehaaaDoor.Cmp Go.Proofs.YtkkfoonaobehaaaDoor.Sort
set_option maxHeartbeats 800000
set_option maxRecDepth 100000
set_option linter.unusedVariables false

theorem len64_any (x : Int) (h0 : 0 ≤ x) (h1 : x < 256) (w : World) : Calls Tryd.prog 75 #[.int .u64 x] w fun e w' => (∃ r, e = .returned (.int .i64 r)) ∧ w = w' := by
  have hm : x % 256 = x := by omega
  have d1 : decide (4294967296 ≤ x) = false := by simp; omega
  have d2 : decide (65536 ≤ x) = false := by simp; omega
  have d3 : decide (256 ≤ x) = false := by simp; omega
  go_enter Tryd.func75, Tryd.ntmps75
  go_wp2
  go_ret
  exact ⟨⟨_, rfl⟩, rfl⟩
theorem len_any (x : Int) (h0 : 0 ≤ x) (h1 : x < 256) (w : World) : Calls Tryd.prog 61 #[.int .u64 x] w fun e w' => (∃ r, e = .returned (.int .i64 r)) ∧ w = w' := by
  go_enter Tryd.func61, Tryd.ntmps61
  go_wp2_with (go_at_call 75; go_must (refine (len64_any x h0 h1 _).mono ?_); rintro e w' ⟨⟨r, rfl⟩, rfl⟩)
  go_ret
  exact ⟨⟨_, rfl⟩, rfl⟩
theorem pdq_any (xs : List (List Int)) (g n c base e : Nat) (lim : Int) (ok : Nat → Prop) (w : World) (hn : xs.length = n) (h0 : 0 < n) (h1 : n ≤ 12) (hs : Short xs) (hR : KS.R e w base ok (.slice (some ⟨g, 0, none⟩) n c) xs) :
    Calls Tryd.prog 60 #[.slice (some ⟨g, 0, none⟩) n c, .int .i64 0, .int .i64 n, .int .i64 lim, .func (.func 52) #[] #[]] w fun e' w' => e' = .returned (.tuple #[]) ∧ KS.R e w' base ok (.slice (some ⟨g, 0, none⟩) n c) (sortL xs) ∧ w.grownBy w' (some g) := by
  have HN := Aside0.mk hn
  have HS := Aside0.mk hs
  have HR := Aside0.mk hR
  clear hn hs hR
  go_enter Tryd.func60, Tryd.ntmps60
  go_wp2_with fail
  refine wp_loop_rounds 1 ?_
  rw [rounds_succ]
  go_wp2_with (go_at_call 66; go_must (refine (ins_any xs g n c base e ok _ HN.out h0 (by omega) HS.out HR.out).mono ?_); rintro e' w' ⟨rfl, h1, h2⟩)
  first | go_end0 | ((try simp only [Exit.inBlock, Exit.then]); refine bodyPost_ret (results_none rfl _ _ _) rfl ?_)
  exact ⟨rfl, h1, h2⟩
theorem ins_none (A : Option Addr) (c : Nat) (w : World) : Calls Tryd.prog 66 #[.slice A 0 c, .int .i64 0, .int .i64 0, .func (.func 52) #[] #[]] w fun e' w' => e' = .returned (.tuple #[]) ∧ w = w' := by
  go_enter Tryd.func66, Tryd.ntmps66
  go_wp2_with fail
  go_loop [8] (fun i => i = .int .i64 1) (fun _ => 0)
  case atStart => rfl
  case round =>
    subst hrel
    go_wp2_with fail
    go_end0
    exact ⟨rfl, rfl⟩
theorem pdq_none (A : Option Addr) (c : Nat) (lim : Int) (w : World) : Calls Tryd.prog 60 #[.slice A 0 c, .int .i64 0, .int .i64 0, .int .i64 lim, .func (.func 52) #[] #[]] w fun e' w' => e' = .returned (.tuple #[]) ∧ w = w' := by
  go_enter Tryd.func60, Tryd.ntmps60
  go_wp2_with fail
  refine wp_loop_rounds 1 ?_
  rw [rounds_succ]
  go_wp2_with (go_at_call 66; go_must (refine (ins_none _ _ _).mono ?_); rintro e' w' ⟨rfl, rfl⟩)
  first | go_end0 | ((try simp only [Exit.inBlock, Exit.then]); refine bodyPost_ret (results_none rfl _ _ _) rfl ?_)
  exact ⟨rfl, rfl⟩
/-- slices.SortFunc by slices.Compare, of at most twelve lists. -/
theorem sort_any (xs : List (List Int)) (v : Value) (base e : Nat) (ok : Nat → Prop) (w : World) (h1 : xs.length ≤ 12) (hs : Short xs) (hR : KS.R e w base ok v xs) :
    Calls Tryd.prog 51 #[v, .func (.func 52) #[] #[]] w fun e' w' => e' = .returned (.tuple #[]) ∧ KS.R e w' base ok v (sortL xs) ∧ w.grownBy w' v.ownBlock := by
  rcases Nat.eq_zero_or_pos xs.length with h0 | h0
  · obtain rfl : xs = [] := List.eq_nil_of_length_eq_zero h0
    obtain ⟨A, c, rfl⟩ := Kd.R_slice hR
    have HR := Aside0.mk hR
    clear hR
    simp only [List.length_nil]
    go_enter Tryd.func51, Tryd.ntmps51
    go_wp2_with (first
      | (go_at_call 61; go_must (refine (len_any 0 (by omega) (by omega) _).mono ?_); rintro e' w' ⟨⟨r, rfl⟩, rfl⟩)
      | (go_at_call 60; go_must (refine (pdq_none _ _ _ _).mono ?_); rintro e' w' ⟨rfl, rfl⟩))
    first | go_end0 | ((try simp only [Exit.inBlock, Exit.then]); refine bodyPost_ret (results_none rfl _ _ _) rfl ?_)
    exact ⟨rfl, HR.out, World.grownBy.refl _ _⟩
  · obtain ⟨A, c, rfl⟩ := Kd.R_slice hR
    obtain ⟨inner, ho⟩ := Kd.R_own hR
    obtain ⟨g, cap, he, _, _⟩ := ho.form h0
    injection he with he1 he2 he3
    subst he1 he3
    generalize hn : xs.length = n at *
    have HN := Aside0.mk hn
    have HS := Aside0.mk hs
    have HR := Aside0.mk hR
    clear hn hs hR ho
    go_enter Tryd.func51, Tryd.ntmps51
    go_wp2_with (first
      | (go_at_call 61; go_must (refine (len_any (n : Int) (by omega) (by omega) _).mono ?_); rintro e' w' ⟨⟨r, rfl⟩, rfl⟩)
      | (go_at_call 60; go_must (refine (pdq_any xs g n c base e _ ok _ HN.out h0 (by omega) HS.out HR.out).mono ?_); rintro e' w' ⟨rfl, h1, h2⟩))
    first | go_end0 | ((try simp only [Exit.inBlock, Exit.then]); refine bodyPost_ret (results_none rfl _ _ _) rfl ?_)
    exact ⟨rfl, h1, h2⟩
end Go.Proofs.YtkkfoonaobehaaaDoor.SortF
