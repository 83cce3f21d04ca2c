import Derived.Test.YtkkfoonaobehaaaDoorCmp
import Derived.Test.YtkkfoonaobehaaaDoorKit
namespace Go.Proofs.YtkkfoonaobehaaaDoor.Sort
open Go.RowKit Go.Proofs.YtkkfoonaobehaaaDoorW.PrintWords Go.Proofs.YtkkfoonaobehaaaDoor.Low Go.Proofs.YtkkfoonaobehaaaDoor.Cmp
open Go.Proofs.YtkkfoonaobehaaaDoor.Kit (C_drew R_drew M_drew grown_drew grown_of_drew grownBy_set)
set_option maxHeartbeats 800000
set_option maxRecDepth 100000
set_option linter.unusedVariables false

abbrev KS : Kd (List Int) := Kd.slice 3 (Kd.int .i64)
def sw (xs : List (List Int)) (j : Nat) : List (List Int) := (xs.set (j + 1) (xs.getD j [])).set j (xs.getD (j + 1) [])
def down : Nat → List (List Int) → List (List Int)
  | 0, xs => xs
  | j + 1, xs => if lexCmp (xs.getD (j + 1) []) (xs.getD j []) < 0 then down j (sw xs j) else xs
def insTo (xs : List (List Int)) : Nat → List (List Int)
  | 0 => xs
  | i + 1 => down (i + 1) (insTo xs i)
def sortL (xs : List (List Int)) : List (List Int) := insTo xs (xs.length - 1)
theorem sw_len (xs : List (List Int)) (j : Nat) : (sw xs j).length = xs.length := by simp [sw]
theorem down_len (j : Nat) : ∀ xs, (down j xs).length = xs.length := by
  induction j with
  | zero => intro xs; rfl
  | succ j ih => intro xs; rw [down]; split <;> simp [ih, sw_len]
theorem insTo_len (xs : List (List Int)) (i : Nat) : (insTo xs i).length = xs.length := by
  induction i with
  | zero => rfl
  | succ i ih => rw [insTo, down_len, ih]
def Short (xs : List (List Int)) : Prop := ∀ l ∈ xs, l.length ≤ 1000000
theorem getD_mem {xs : List (List Int)} {j : Nat} (h : j < xs.length) : xs.getD j [] ∈ xs := by
  rw [List.getD_eq_getElem?_getD, List.getElem?_eq_getElem h]
  exact List.getElem_mem h
theorem sw_short {xs : List (List Int)} (h : Short xs) {j : Nat} (hj : j + 1 < xs.length) : Short (sw xs j) := by
  intro l hl
  rcases List.mem_or_eq_of_mem_set hl with hl | rfl
  · rcases List.mem_or_eq_of_mem_set hl with hl | rfl
    · exact h l hl
    · exact h _ (getD_mem (by omega))
  · exact h _ (getD_mem hj)
theorem down_short (j : Nat) : ∀ xs, Short xs → j < xs.length → Short (down j xs) := by
  induction j with
  | zero => intro xs h _; exact h
  | succ j ih =>
    intro xs h hj
    rw [down]
    split
    · exact ih _ (sw_short h hj) (by rw [sw_len]; omega)
    · exact h
theorem insTo_short (xs : List (List Int)) (h : Short xs) : ∀ i, i < xs.length → Short (insTo xs i)
  | 0, _ => h
  | i + 1, hi => down_short _ _ (insTo_short xs h i (by omega)) (by rw [insTo_len]; exact hi)

section
variable {base e g c : Nat} {ok : Nat → Prop} {W : World} {xs : List (List Int)}
theorem elem_at {n : Nat} (h : KS.R e W base ok (.slice (some ⟨g, 0, none⟩) n c) xs) (i : Nat) (hi : i < n) :
    ∃ A k, W.cell? ⟨g, i, none⟩ = some (.slice A (xs.getD i []).length k) ∧ W.frozen? ⟨g, i, none⟩ = false ∧ KI.C W A (xs.getD i []).length (xs.getD i []) ∧ KS.M W base (fun k => ok k ∧ k ≠ g) (xs.getD i []) [.slice A (xs.getD i []).length k] := by
  obtain ⟨cs, hl, hM, hc, hf⟩ := Kd.R_elem h [] (i : Int) (by omega) (by omega)
  simp only [Int.toNat_natCast, show KS.sz = 1 from rfl, Nat.mul_one] at hc hf hM
  obtain ⟨v, rfl, hR⟩ := hM
  obtain ⟨A, k, rfl, hk, hC⟩ := Kd.R_reads hR
  refine ⟨A, k, ?_, ?_, hC, ⟨_, rfl, hR⟩⟩
  · have := hc 0 _ rfl
    simpa using this
  · have := hf 0
    simpa using this
theorem swap_R {n : Nat} (h : KS.R e W base ok (.slice (some ⟨g, 0, none⟩) n c) xs) (j : Nat) (hj : j + 1 < n) {u v : Value} (hu : KS.M W base (fun k => ok k ∧ k ≠ g) (xs.getD j []) [u]) (hv : KS.M W base (fun k => ok k ∧ k ≠ g) (xs.getD (j + 1) []) [v]) :
    KS.R e ((W.setCell ⟨g, j + 1, none⟩ u).setCell ⟨g, j, none⟩ v) base ok (.slice (some ⟨g, 0, none⟩) n c) (sw xs j) := by
  obtain ⟨c1, hl1, _, hc1, _⟩ := Kd.R_elem h [] ((j + 1 : Nat) : Int) (by omega) (by omega)
  have h1 := (Kd.R_seg h ((j + 1 : Nat) : Int) (by omega) (by omega) (seg := [u]) (j := 0) hl1 hc1 (by simp [KS, Kd.slice]) (x' := xs.getD j []) (by
    have : c1.drop 1 = [] := by apply List.eq_nil_of_length_eq_zero; rw [List.length_drop, hl1]; rfl
    simpa [this] using hu) (fun _ hk => hk)).1
  simp only [Int.toNat_natCast, show KS.sz = 1 from rfl, Nat.mul_one, Nat.add_zero, World.setCells] at h1
  have hv' := Kd.M_far (p := ⟨g, j + 1, none⟩) hv (fun _ hk => hk.2) u
  obtain ⟨c2, hl2, _, hc2, _⟩ := Kd.R_elem h1 [] (j : Int) (by omega) (by omega)
  have h2 := (Kd.R_seg h1 (j : Int) (by omega) (by omega) (seg := [v]) (j := 0) hl2 hc2 (by simp [KS, Kd.slice]) (x' := xs.getD (j + 1) []) (by
    have : c2.drop 1 = [] := by apply List.eq_nil_of_length_eq_zero; rw [List.length_drop, hl2]; rfl
    simpa [this] using hv') (fun _ hk => hk)).1
  simp only [Int.toNat_natCast, show KS.sz = 1 from rfl, Nat.mul_one, Nat.add_zero, World.setCells] at h2
  exact h2
theorem swap_R2 {n : Nat} (h : KS.R e W base ok (.slice (some ⟨g, 0, none⟩) n c) xs) (j : Nat) (h0 : 0 < j) (hj : j < n) {u v : Value} {x y : List Int} (hx : x = xs.getD j []) (hy : y = xs.getD (j - 1) []) (hu : KS.M W base (fun k => ok k ∧ k ≠ g) y [u]) (hv : KS.M W base (fun k => ok k ∧ k ≠ g) x [v]) :
    KS.R e ((W.setCell ⟨g, j, none⟩ u).setCell ⟨g, j - 1, none⟩ v) base ok (.slice (some ⟨g, 0, none⟩) n c) (sw xs (j - 1)) := by
  obtain ⟨q, rfl⟩ : ∃ q, j = q + 1 := ⟨j - 1, by omega⟩
  subst hx hy
  exact swap_R h q hj hu hv
end
theorem ins_any (xs : List (List Int)) (g n c base e : Nat) (ok : Nat → Prop) (w : World) (hn : xs.length = n) (h0 : 0 < n) (h1 : n ≤ 1000000) (hs : Short xs) (hR : KS.R e w base ok (.slice (some ⟨g, 0, none⟩) n c) xs) :
    Calls Tryd.prog 66 #[.slice (some ⟨g, 0, none⟩) n c, .int .i64 0, .int .i64 n, .func (.func 52) #[] #[]] w fun e' w' => e' = .returned (.tuple #[]) ∧ KS.R e w' base ok (.slice (some ⟨g, 0, none⟩) n c) (sortL xs) ∧ w.grownBy w' (some g) := by
  have HN := Aside0.mk hn
  have HS := Aside0.mk hs
  clear hn hs
  go_enter Tryd.func66, Tryd.ntmps66
  go_wp2_with fail
  go_loopw [8, 9] (fun i _ wr => ∃ k : Nat, i = .int .i64 k ∧ 1 ≤ k ∧ k ≤ n ∧ KS.R e wr base ok (.slice (some ⟨g, 0, none⟩) n c) (insTo xs (k - 1)) ∧ w.grownBy wr (some g)) (fun i _ _ => n - (intOf i).toNat)
  case atStart => exact ⟨1, rfl, by omega, by omega, hR, World.grownBy.refl _ _⟩
  case round =>
    obtain ⟨k, rfl, hk1, hk, hR, hG⟩ := hrel
    by_cases hlt : k < n
    · have d0 : decide ((k : Int) < (n : Int)) = true := by simp; omega
      have hsn := insTo_short xs HS.out (k - 1) (by have := HN.out; omega)
      have hln : Aside0 ((insTo xs (k - 1)).length = n) := ⟨by rw [insTo_len]; exact HN.out⟩
      have HI : Aside0 (down k (insTo xs (k - 1)) = insTo xs k) := ⟨by obtain ⟨q, rfl⟩ : ∃ q, k = q + 1 := ⟨k - 1, by omega⟩; rfl⟩
      generalize insTo xs (k - 1) = ys at *
      have HSn := Aside0.mk hsn
      clear hsn
      go_wp2_with fail
      obtain ⟨wo, rfl⟩ : ∃ wo : World, wo = wr := ⟨_, rfl⟩
      go_loopw [9] (fun jj wr => ∃ (j : Nat) (zs : List (List Int)), jj = .int .i64 j ∧ j ≤ k ∧ KS.R e wr base ok (.slice (some ⟨g, 0, none⟩) n c) zs ∧ w.grownBy wr (some g) ∧ Aside0 (down j zs = insTo xs k ∧ zs.length = n ∧ Short zs)) (fun jj _ => (intOf jj).toNat)
      case atStart => exact ⟨k, ys, rfl, by omega, hR, hG, ⟨HI.out, hln.out, HSn.out⟩⟩
      case round =>
        obtain ⟨j, zs, rfl, hj, hR, hG, HD⟩ := hrel
        by_cases hj0 : j = 0
        · subst hj0
          go_wp2_with fail
          go_quiet (fail)
          go_wp2_with fail
          have h := HD.out.1
          rw [down] at h
          exact ⟨⟨k + 1, by go_num, by omega, by omega, by have := R_drew hR nq; simpa [h] using this, grown_drew hG nq⟩, by simp [intOf]; omega⟩
        · obtain ⟨A1, k1, c1, f1, C1, M1⟩ := elem_at hR j (by omega)
          obtain ⟨A2, k2, c2, f2, C2, M2⟩ := elem_at hR (j - 1) (by omega)
          have l1 : (zs.getD j []).length ≤ 1000000 := HD.out.2.2 _ (getD_mem (by have := HD.out.2.1; omega))
          have l2 : (zs.getD (j - 1) []).length ≤ 1000000 := HD.out.2.2 _ (getD_mem (by have := HD.out.2.1; omega))
          have HW : Aside0 (sw zs (j - 1) = (zs.set j (zs.getD (j - 1) [])).set (j - 1) (zs.getD j [])) := ⟨by obtain ⟨q, rfl⟩ : ∃ q, j = q + 1 := ⟨j - 1, by omega⟩; rfl⟩
          have HDn : Aside0 (down j zs = if lexCmp (zs.getD j []) (zs.getD (j - 1) []) < 0 then down (j - 1) (sw zs (j - 1)) else zs) := ⟨by obtain ⟨q, rfl⟩ : ∃ q, j = q + 1 := ⟨j - 1, by omega⟩; rfl⟩
          have hw : IntKind.i64.wrap ((j : Int) - 1) = ((j - 1 : Nat) : Int) := by rw [IntWalk.i64_in _ (by omega)]; omega
          have hw0 : (0 : Int) ≤ ((j - 1 : Nat) : Int) := by omega
          have hw1 : ((j - 1 : Nat) : Int) < (n : Int) := by omega
          have hw2 : (j : Int) < (n : Int) := by omega
          have d4 : decide (0 < (j : Int)) = true := by simp; omega
          have d5 : decide (0 < j) = true := by simp; omega
          have HM1 := Aside0.mk M1
          have HM2 := Aside0.mk M2
          have HC1 := Aside0.mk C1
          have HC2 := Aside0.mk C2
          clear M1 M2 C1 C2
          obtain ⟨x, hx⟩ : ∃ x, x = zs.getD j [] := ⟨_, rfl⟩
          obtain ⟨y, hy⟩ : ∃ y, y = zs.getD (j - 1) [] := ⟨_, rfl⟩
          rw [← hx] at c1 HC1 HM1 l1 HDn HW
          rw [← hy] at c2 HC2 HM2 l2 HDn HW
          have Hx := Aside0.mk hx
          have Hy := Aside0.mk hy
          clear hx hy
          by_cases hz : lexCmp x y < 0
          · have d6 : decide (lexCmp x y < 0) = true := by simpa using hz
            have hdn := HDn.out
            rw [if_pos hz] at hdn
            have HDn' := Aside0.mk hdn
            clear hdn HDn hz
            go_wp2_with fail
            go_quiet ((go_at_call 52; exact Calls.quiet_of_same ((compare_any x y A1 A2 k1 k2 _ (C_drew HC1.out _) (C_drew HC2.out _) l1 l2).mono fun _ _ h => ⟨h.1, h.2.symm⟩)))
            go_wp2_with fail
            go_region
            go_wp2_with fail
            have hz1 := HDn'.out
            refine ⟨⟨j - 1, sw zs (j - 1), rfl, by omega, swap_R2 (R_drew hR (nq + 1)) j (by omega) (by omega) Hx.out Hy.out (M_drew HM2.out _) (M_drew HM1.out _), (grown_drew hG (nq + 1)).trans ((grownBy_set _ g j _).trans (grownBy_set _ g (j - 1) _)), ⟨by rw [← hz1]; exact HD.out.1, by rw [sw_len]; exact HD.out.2.1, ?_⟩⟩, by simp [intOf]; omega⟩
            have hln := HD.out.2.1
            obtain ⟨q, rfl⟩ : ∃ q, j = q + 1 := ⟨j - 1, by omega⟩
            exact sw_short HD.out.2.2 (by omega)
          · have d6 : decide (lexCmp x y < 0) = false := by simpa using hz
            have hdn := HDn.out
            rw [if_neg hz] at hdn
            have HDn' := Aside0.mk hdn
            clear hdn HDn hz
            go_wp2_with fail
            go_quiet ((go_at_call 52; exact Calls.quiet_of_same ((compare_any x y A1 A2 k1 k2 _ (C_drew HC1.out _) (C_drew HC2.out _) l1 l2).mono fun _ _ h => ⟨h.1, h.2.symm⟩)))
            go_wp2_with fail
            have h := HD.out.1
            rw [HDn'.out] at h
            exact ⟨⟨k + 1, by go_num, by omega, by omega, by have := R_drew hR nq; simpa [h] using this, grown_drew hG nq⟩, by simp [intOf]; omega⟩
    · obtain rfl : k = n := by omega
      have d0 : decide ((k : Int) < (k : Int)) = false := by simp
      go_wp2_with fail
      go_end0
      refine ⟨rfl, ?_, hG⟩
      rw [sortL, HN.out]
      exact hR
end Go.Proofs.YtkkfoonaobehaaaDoor.Sort
