import Derived.Test.YtkkfoonaobehaaaDoorTr
import Derived.Test.YtkkfoonaobehaaaDoorMk
import Derived.ChangeKeysEq
import Derived.Laws.StructEq
namespace Go.Proofs.YtkkfoonaobehaaaDoor.Keep
open Go.RowKit Go.Proofs.YtkkfoonaobehaaaDoorW.PrintWords Go.Proofs.YtkkfoonaobehaaaDoor.Bits Go.Proofs.YtkkfoonaobehaaaDoor.Low Go.Proofs.YtkkfoonaobehaaaDoor.Sets Go.Proofs.YtkkfoonaobehaaaDoor.Read Go.Proofs.YtkkfoonaobehaaaDoor.Sort Go.Proofs.YtkkfoonaobehaaaDoor.Tr
set_option maxHeartbeats 800000
set_option maxRecDepth 100000
set_option linter.unusedVariables false
set_option linter.unusedSimpArgs false

theorem take_step {α : Type} (z : α) (xs ys : List α) (k : Nat) (h1 : k < xs.length) (h2 : k < ys.length) (h : xs.take k = ys.take k) (e : xs.getD k z = ys.getD k z) : xs.take (k + 1) = ys.take (k + 1) := by
  rw [List.take_succ_eq_append_getElem h1, List.take_succ_eq_append_getElem h2, h]
  rw [List.getD_eq_getElem?_getD, List.getD_eq_getElem?_getD, List.getElem?_eq_getElem h1, List.getElem?_eq_getElem h2, Option.getD_some, Option.getD_some] at e
  rw [e]
theorem take_full {α : Type} (xs ys : List α) (hl : xs.length = ys.length) (h : xs.take xs.length = ys.take xs.length) : xs = ys := by
  rw [List.take_length, hl, List.take_length] at h
  exact h
theorem below_drewd {B : Nat} {w wr : World} (h : ∃ m, wr = w.drewN m) : Below B w wr := by
  obtain ⟨m, rfl⟩ := h
  exact pw_below_drewN (Below.refl _ _) m
theorem drewd_more {w wr : World} (h : ∃ m, wr = w.drewN m) (n : Nat) : ∃ m, wr.drewN n = w.drewN m := by
  obtain ⟨m, rfl⟩ := h
  exact ⟨m + n, World.drewN_drewN _ _ _⟩

theorem ints_any (xs ys : List Int) (A B : Option Addr) (c d : Nat) (w : World) (hx : KI.C w A xs.length xs) (hy : KI.C w B ys.length ys) (lx : xs.length ≤ 1000000) (ly : ys.length ≤ 1000000) :
    Calls Tryd.prog 24 #[.slice A xs.length c, .slice B ys.length d] w fun e w' => e = .returned (.bool (decide (xs = ys))) ∧ ∃ m, w' = w.drewN m := by
  have HX := Aside0.mk hx
  have HY := Aside0.mk hy
  clear hx hy
  obtain ⟨r, hr⟩ : ∃ r, r = decide (xs = ys) := ⟨_, rfl⟩
  have HR := Aside0.mk hr
  rw [← hr]
  clear hr
  by_cases hl : xs.length = ys.length
  · have d1 : ((xs.length : Int) == (ys.length : Int)) = true := by simp [hl]
    have d2 : ((xs.length : Int) != (ys.length : Int)) = false := by simp [hl]
    have HL := Aside0.mk hl
    clear hl
    go_enter Tryd.func24, Tryd.ntmps24
    go_wp2_with fail
    clear d1 d2
    go_loopw [5] (fun i wr => ∃ k : Nat, i = .int .i64 k ∧ k ≤ xs.length ∧ Aside0 (xs.take k = ys.take k) ∧ Aside0 (∃ m, wr = w.drewN m)) (fun i _ => xs.length - (intOf i).toNat)
    case atStart => exact ⟨0, rfl, by omega, ⟨rfl⟩, ⟨0, rfl⟩⟩
    case round =>
      obtain ⟨k, rfl, hk, HK, HW⟩ := hrel
      by_cases hlt : k < xs.length
      · have hly : k < ys.length := by rw [← HL.out]; exact hlt
        obtain ⟨ad, ead, h1⟩ := Kd.at_int (Kd.C_below HX.out (below_drewd HW.out)) k (by omega) (by omega)
        obtain ⟨ad2, ead2, h2⟩ := Kd.at_int (Kd.C_below HY.out (below_drewd HW.out)) k (by omega) (by omega)
        have hr1 : rd xs k = xs.getD k 0 := by simp [rd]
        have hr2 : rd ys k = ys.getD k 0 := by simp [rd]
        rw [hr1] at h1
        rw [hr2] at h2
        simp only [Int.toNat_natCast] at h1 h2
        cases ead
        cases ead2
        have HTS := Aside0.mk (take_step 0 xs ys k hlt hly HK.out)
        have HNE : Aside0 (xs.getD k 0 ≠ ys.getD k 0 → xs ≠ ys) := ⟨fun h e => h (by rw [e])⟩
        clear hr1 hr2
        generalize xs.getD k 0 = x at *
        generalize ys.getD k 0 = y at *
        by_cases hxy : x = y
        · have d1 : ((x : Int) == y) = true := by simp [hxy]
          have d2 : ((x : Int) != y) = false := by simp [hxy]
          have HT2 := Aside0.mk (HTS.out hxy)
          clear HTS HNE hxy
          go_wp2_with fail
          go_quiet (fail)
          go_wp2_with fail
          exact ⟨⟨k + 1, by go_num, by omega, HT2, ⟨drewd_more HW.out _⟩⟩, by simp [intOf]; omega⟩
        · have d1 : ((x : Int) == y) = false := by simp [hxy]
          have d2 : ((x : Int) != y) = true := by simp [hxy]
          have HN2 := Aside0.mk (HNE.out hxy)
          clear HTS HNE hxy
          go_wp2_with fail
          go_quiet (fail)
          go_wp2_with fail
          go_ret
          exact ⟨by rw [HR.out, decide_eq_false HN2.out]; rfl, drewd_more HW.out _⟩
      · obtain rfl : k = xs.length := by omega
        go_wp2_with fail
        go_ret
        exact ⟨by rw [HR.out, decide_eq_true (take_full _ _ HL.out HK.out)]; rfl, HW.out⟩
  · have d1 : ((xs.length : Int) == (ys.length : Int)) = false := by simp; omega
    have d2 : ((xs.length : Int) != (ys.length : Int)) = true := by simp; omega
    have HN : Aside0 (xs ≠ ys) := ⟨fun e => hl (by rw [e])⟩
    clear hl
    go_enter Tryd.func24, Tryd.ntmps24
    go_wp2_with fail
    go_ret
    exact ⟨by rw [HR.out, decide_eq_false HN.out]; rfl, 0, rfl⟩

theorem lists_any (xs ys : List (List Int)) (A B : Option Addr) (c d : Nat) (w : World) (hx : KS.C w A xs.length xs) (hy : KS.C w B ys.length ys) (lx : xs.length ≤ 1000000) (ly : ys.length ≤ 1000000) (sx : ∀ i, (xs.getD i []).length ≤ 1000000) (sy : ∀ i, (ys.getD i []).length ≤ 1000000) :
    Calls Tryd.prog 20 #[.slice A xs.length c, .slice B ys.length d] w fun e w' => e = .returned (.bool (decide (xs = ys))) ∧ ∃ m, w' = w.drewN m := by
  have HX := Aside0.mk hx
  have HY := Aside0.mk hy
  have SX := Aside0.mk sx
  have SY := Aside0.mk sy
  clear hx hy sx sy
  obtain ⟨r, hr⟩ : ∃ r, r = decide (xs = ys) := ⟨_, rfl⟩
  have HR := Aside0.mk hr
  rw [← hr]
  clear hr
  by_cases hl : xs.length = ys.length
  · have d1 : ((xs.length : Int) == (ys.length : Int)) = true := by simp [hl]
    have d2 : ((xs.length : Int) != (ys.length : Int)) = false := by simp [hl]
    have HL := Aside0.mk hl
    clear hl
    go_enter Tryd.func20, Tryd.ntmps20
    go_wp2_with fail
    clear d1 d2
    go_loopw [5] (fun i wr => ∃ k : Nat, i = .int .i64 k ∧ k ≤ xs.length ∧ Aside0 (xs.take k = ys.take k) ∧ Aside0 (∃ m, wr = w.drewN m)) (fun i _ => xs.length - (intOf i).toNat)
    case atStart => exact ⟨0, rfl, by omega, ⟨rfl⟩, ⟨0, rfl⟩⟩
    case round =>
      obtain ⟨k, rfl, hk, HK, HW⟩ := hrel
      by_cases hlt : k < xs.length
      · have hly : k < ys.length := by rw [← HL.out]; exact hlt
        obtain ⟨ad, A2, c2, ead, h1, hl1, hC1⟩ := elemC (Kd.C_below HX.out (below_drewd HW.out)) k hlt
        obtain ⟨ad2, B2, d2, ead2, h2, hl2, hC2⟩ := elemC (Kd.C_below HY.out (below_drewd HW.out)) k hly
        cases ead
        cases ead2
        have hs1 := SX.out k
        have hs2 := SY.out k
        have HTS := Aside0.mk (take_step [] xs ys k hlt hly HK.out)
        have HNE : Aside0 (xs.getD k [] ≠ ys.getD k [] → xs ≠ ys) := ⟨fun h e => h (by rw [e])⟩
        generalize xs.getD k [] = x at *
        generalize ys.getD k [] = y at *
        have HC1 := Aside0.mk hC1
        have HC2 := Aside0.mk hC2
        clear hC1 hC2
        have hcall := fun n => ints_any x y A2 B2 c2 d2 (wr.drewN n) (Kd.C_drewN HC1.out n) (Kd.C_drewN HC2.out n) hs1 hs2
        by_cases hxy : x = y
        · rw [decide_eq_true hxy] at hcall
          have HCA := Aside0.mk hcall
          have HT2 := Aside0.mk (HTS.out hxy)
          clear HTS HNE hxy hcall
          go_wp2_with fail
          go_quiet ((go_at_call 24; exact Calls.quiet_of (HCA.out _)))
          go_wp2_with fail
          exact ⟨⟨k + 1, by go_num, by omega, HT2, ⟨drewd_more HW.out _⟩⟩, by simp [intOf]; omega⟩
        · rw [decide_eq_false hxy] at hcall
          have HCA := Aside0.mk hcall
          have HN2 := Aside0.mk (HNE.out hxy)
          clear HTS HNE hxy hcall
          go_wp2_with fail
          go_quiet ((go_at_call 24; exact Calls.quiet_of (HCA.out _)))
          go_wp2_with fail
          go_ret
          exact ⟨by rw [HR.out, decide_eq_false HN2.out]; rfl, drewd_more HW.out _⟩
      · obtain rfl : k = xs.length := by omega
        go_wp2_with fail
        go_ret
        exact ⟨by rw [HR.out, decide_eq_true (take_full _ _ HL.out HK.out)]; rfl, HW.out⟩
  · have d1 : ((xs.length : Int) == (ys.length : Int)) = false := by simp; omega
    have d2 : ((xs.length : Int) != (ys.length : Int)) = true := by simp; omega
    have HN : Aside0 (xs ≠ ys) := ⟨fun e => hl (by rw [e])⟩
    clear hl
    go_enter Tryd.func20, Tryd.ntmps20
    go_wp2_with fail
    go_ret
    exact ⟨by rw [HR.out, decide_eq_false HN.out]; rfl, 0, rfl⟩
@[go_sem] theorem eq46 (a b c d : Int) (w : World) : (Op.equalIn 10000 46 (.agg #[.int .i64 a, .int .i64 b]) (.agg #[.int .i64 c, .int .i64 d])).run Tryd.prog w = .ok (a == c && b == d) w := by
  obtain ⟨i, hi⟩ : ∃ i, Tryd.prog.info? 3 = some i := by
    have h := i3
    cases e : Tryd.prog.info? 3 with
    | none => rw [e] at h; cases h
    | some i => exact ⟨i, rfl⟩
  rw [run_equalIn_array w 9999 _ _ Tryd.underlying46 hi, show List.range 2 = [0, 1] from rfl, show Tryd.prog.cellsOf 3 = 1 by kernel_rfl]
  simp only [Op.eqItems]
  go_simp
  by_cases h1 : a = c <;> by_cases h2 : b = d <;> simp [h1, h2]
theorem graphs_any (n m : Int) (xs ys : List (Int × Int)) (A B : Option Addr) (c d : Nat) (w : World) (hx : KE.C w A xs.length xs) (hy : KE.C w B ys.length ys) (lx : xs.length ≤ 1000000) (ly : ys.length ≤ 1000000) :
    Calls Tryd.prog 15 #[.agg #[.int .i64 n, .slice A xs.length c], .agg #[.int .i64 m, .slice B ys.length d]] w fun e w' => e = .returned (.bool (decide (n = m ∧ xs = ys))) ∧ Below w.heap.size w w' := by
  have HX := Aside0.mk hx
  have HY := Aside0.mk hy
  clear hx hy
  obtain ⟨r, hr⟩ : ∃ r, r = decide (n = m ∧ xs = ys) := ⟨_, rfl⟩
  have HR := Aside0.mk hr
  rw [← hr]
  clear hr
  by_cases hnm : n = m
  · subst hnm
    have d0 : (n == n) = true := by simp
    have d0' : (n != n) = false := by simp
    by_cases hl : xs.length = ys.length
    · have d1 : ((xs.length : Int) == (ys.length : Int)) = true := by simp [hl]
      have d2 : ((xs.length : Int) != (ys.length : Int)) = false := by simp [hl]
      have HL := Aside0.mk hl
      clear hl
      go_enter Tryd.func15, Tryd.ntmps15
      go_wp2_with fail
      clear d1 d2 d0 d0'
      go_loopw [5] (fun i wr => ∃ k : Nat, i = .int .i64 k ∧ k ≤ xs.length ∧ Aside0 (xs.take k = ys.take k) ∧ wr.heap[w.heap.size]? = some (.cells #[.int .i64 n, .slice A xs.length c] 25 (0, 0)) ∧ wr.heap[w.heap.size + 1]? = some (.cells #[.int .i64 n, .slice B ys.length d] 25 (0, 0)) ∧ Below w.heap.size w wr) (fun i _ => xs.length - (intOf i).toNat)
      case atStart => exact ⟨0, rfl, by omega, ⟨rfl⟩, blk_alloc (blk_at rfl) _, blk_at (by simp), ((Below.refl _ _).alloc (Nat.le_refl _) _).alloc (by simp) _⟩
      case round =>
        obtain ⟨k, rfl, hk, HK, hG1, hG2, hB⟩ := hrel
        have g1 : wr.cell? ⟨w.heap.size, 1, none⟩ = some (.slice A xs.length c) := by simpa using blk_cell hG1 1
        have g2 : wr.cell? ⟨w.heap.size + 1, 1, none⟩ = some (.slice B ys.length d) := by simpa using blk_cell hG2 1
        have G1 := Aside0.mk hG1
        have G2 := Aside0.mk hG2
        clear hG1 hG2
        by_cases hlt : k < xs.length
        · have hly : k < ys.length := by rw [← HL.out]; exact hlt
          obtain ⟨ad, ead, ha, hb⟩ := C_pair (Kd.C_below HX.out hB) k hlt
          obtain ⟨ad2, ead2, ha2, hb2⟩ := C_pair (Kd.C_below HY.out hB) k hly
          cases ead
          cases ead2
          have HTS := Aside0.mk (take_step (0, 0) xs ys k hlt hly HK.out)
          have HNE : Aside0 (xs.getD k (0, 0) ≠ ys.getD k (0, 0) → xs ≠ ys) := ⟨fun h e => h (by rw [e])⟩
          generalize xs.getD k (0, 0) = x at *
          generalize ys.getD k (0, 0) = y at *
          obtain ⟨x1, x2⟩ := x
          obtain ⟨y1, y2⟩ := y
          simp only at ha hb ha2 hb2
          by_cases hxy : x1 = y1
          · have d1 : ((x1 : Int) == y1) = true := by simp [hxy]
            have d2 : ((x1 : Int) != y1) = false := by simp [hxy]
            by_cases hxy2 : x2 = y2
            · have d3 : ((x2 : Int) == y2) = true := by simp [hxy2]
              have d4 : ((x2 : Int) != y2) = false := by simp [hxy2]
              have HT2 := Aside0.mk (HTS.out (by rw [hxy, hxy2]))
              clear HTS HNE hxy hxy2
              go_wp2_with fail
              go_quiet (fail)
              go_wp2_with fail
              exact ⟨⟨k + 1, by go_num, by omega, HT2, blk_drewN G1.out _, blk_drewN G2.out _, pw_below_drewN hB _⟩, by simp [intOf]; omega⟩
            · have d3 : ((x2 : Int) == y2) = false := by simp [hxy2]
              have d4 : ((x2 : Int) != y2) = true := by simp [hxy2]
              have HN2 := Aside0.mk (HNE.out (fun h => by simp only [Prod.mk.injEq] at h; exact hxy2 h.2))
              clear HTS HNE hxy hxy2
              go_wp2_with fail
              go_quiet (fail)
              go_wp2_with fail
              go_ret
              exact ⟨by rw [HR.out, decide_eq_false (fun h => HN2.out h.2)]; rfl, pw_below_drewN hB _⟩
          · have d1 : ((x1 : Int) == y1) = false := by simp [hxy]
            have d2 : ((x1 : Int) != y1) = true := by simp [hxy]
            have HN2 := Aside0.mk (HNE.out (fun h => by simp only [Prod.mk.injEq] at h; exact hxy h.1))
            clear HTS HNE hxy
            go_wp2_with fail
            go_quiet (fail)
            go_wp2_with fail
            go_ret
            exact ⟨by rw [HR.out, decide_eq_false (fun h => HN2.out h.2)]; rfl, pw_below_drewN hB _⟩
        · obtain rfl : k = xs.length := by omega
          go_wp2_with fail
          go_ret
          have hrt : r = true := by rw [HR.out]; simpa using take_full _ _ HL.out HK.out
          exact ⟨by rw [hrt]; rfl, hB⟩
    · have d1 : ((xs.length : Int) == (ys.length : Int)) = false := by simp; omega
      have d2 : ((xs.length : Int) != (ys.length : Int)) = true := by simp; omega
      have HN : Aside0 (xs ≠ ys) := ⟨fun e => hl (by rw [e])⟩
      clear hl
      go_enter Tryd.func15, Tryd.ntmps15
      go_wp2_with fail
      go_ret
      exact ⟨by rw [HR.out, decide_eq_false (fun h => HN.out h.2)]; rfl, ((Below.refl _ _).alloc (Nat.le_refl _) _).alloc (by simp) _⟩
  · have d0 : (n == m) = false := by simp [hnm]
    have d0' : (n != m) = true := by simp [hnm]
    have HN := Aside0.mk hnm
    clear hnm
    go_enter Tryd.func15, Tryd.ntmps15
    go_wp2_with fail
    go_ret
    exact ⟨by rw [HR.out, decide_eq_false (fun h => HN.out h.1)]; rfl, ((Below.refl _ _).alloc (Nat.le_refl _) _).alloc (by simp) _⟩
end Go.Proofs.YtkkfoonaobehaaaDoor.Keep
