import Derived.Test.YtkkfoonaobehaaaDoorChord
import Derived.Test.YtkkfoonaobehaaaDoorOrd
import Derived.Test.YtkkfoonaobehaaaDoorSort
import Derived.Test.YtkkfoonaobehaaaDoorCl
import Derived.Test.YtkkfoonaobehaaaDoorGrP
import Derived.Test.YtkkfoonaobehaaaDoorAdj
namespace Go.Proofs.YtkkfoonaobehaaaDoor.Comp
open Go.RowKit Go.Proofs.YtkkfoonaobehaaaDoorW.PrintWords Go.Proofs.YtkkfoonaobehaaaDoor.Bits Go.Proofs.YtkkfoonaobehaaaDoor.Low Go.Proofs.YtkkfoonaobehaaaDoor.Sets Go.Proofs.YtkkfoonaobehaaaDoor.Read Go.Proofs.YtkkfoonaobehaaaDoor.Search Go.Proofs.YtkkfoonaobehaaaDoor.Earl Go.Proofs.YtkkfoonaobehaaaDoor.Ext Go.Proofs.YtkkfoonaobehaaaDoor.Chord Go.Proofs.YtkkfoonaobehaaaDoor.Sort Go.Proofs.YtkkfoonaobehaaaDoor.Ord
open Go.Proofs.YtkkfoonaobehaaaDoor.Kit (store_row R_grownB grownBy_set)
open Go.Proofs.YtkkfoonaobehaaaDoor.Cl (i40)
set_option maxHeartbeats 800000
set_option maxRecDepth 100000
set_option linter.unusedVariables false
set_option linter.unusedSimpArgs false
/-- u is closed under the adjacency. -/
def Closed (f : Nat → Nat) (u : Nat) : Prop := ∀ i j, u.testBit i = true → (f i).testBit j = true → u.testBit j = true
/-- u holds i and lies in each closed set that does. -/
def Pre (f : Nat → Nat) (i u : Nat) : Prop := u < 18446744073709551616 ∧ u.testBit i = true ∧ ∀ V : Nat → Prop, V i → (∀ a b, V a → (f a).testBit b = true → V b) → ∀ j, u.testBit j = true → V j
def IsClo (f : Nat → Nat) (i u : Nat) : Prop := Pre f i u ∧ Closed f u
theorem IsClo.uniq {f : Nat → Nat} {i u v : Nat} (hu : IsClo f i u) (hv : IsClo f i v) : u = v := by
  apply Nat.eq_of_testBit_eq
  intro j
  have h1 := hu.1.2.2 (fun j => v.testBit j = true) hv.1.2.1 hv.2 j
  have h2 := hv.1.2.2 (fun j => u.testBit j = true) hu.1.2.1 hu.2 j
  cases e1 : u.testBit j <;> cases e2 : v.testBit j <;> simp_all
/-- One round. -/
def growTo (f : Nat → Nat) (u k : Nat) : Nat := ((mem u).take k).foldl (fun a j => a ||| f j) u
theorem growTo_zero (f : Nat → Nat) (u : Nat) : growTo f u 0 = u := by simp [growTo]
theorem growTo_step (f : Nat → Nat) (u k : Nat) (h : k < (mem u).length) : growTo f u (k + 1) = growTo f u k ||| f (mem u)[k] := by
  rw [growTo, List.take_succ_eq_append_getElem h, List.foldl_append]
  rfl
theorem growTo_bit (f : Nat → Nat) (u j : Nat) : ∀ k, k ≤ (mem u).length → ((growTo f u k).testBit j = true ↔ u.testBit j = true ∨ ∃ i ∈ (mem u).take k, (f i).testBit j = true)
  | 0, _ => by simp [growTo]
  | k + 1, h => by
    rw [growTo_step f u k (by omega), Nat.testBit_or, Bool.or_eq_true, growTo_bit f u j k (by omega), List.take_succ_eq_append_getElem (by omega)]
    simp only [List.mem_append, List.mem_singleton, or_and_right, exists_or, exists_eq_left, or_assoc]
theorem growTo_lt {f : Nat → Nat} (hf : Bd f) {u : Nat} (hu : u < 18446744073709551616) : ∀ k, k ≤ (mem u).length → growTo f u k < 18446744073709551616
  | 0, _ => by rw [growTo_zero]; exact hu
  | k + 1, h => by
    rw [growTo_step f u k (by omega)]
    exact Nat.or_lt_two_pow (n := 64) (growTo_lt hf hu k (by omega)) (hf _ (mem_lt (List.getElem_mem _)))
def grow (f : Nat → Nat) (u : Nat) : Nat := growTo f u (mem u).length
theorem grow_bit (f : Nat → Nat) (u j : Nat) : (grow f u).testBit j = true ↔ u.testBit j = true ∨ ∃ i, i < 64 ∧ u.testBit i = true ∧ (f i).testBit j = true := by
  rw [grow, growTo_bit f u j _ (Nat.le_refl _), List.take_length]
  simp [mem_mem, and_assoc]
theorem grow_le (f : Nat → Nat) (u : Nat) : u ≤ grow f u := by
  have : grow f u = u ||| grow f u := by
    apply Nat.eq_of_testBit_eq
    intro j
    rw [Nat.testBit_or]
    have := (grow_bit f u j).2
    cases e : u.testBit j
    · simp
    · rw [this (.inl e)]; rfl
  rw [this]
  exact Nat.left_le_or
theorem grow_pre {f : Nat → Nat} (hf : Bd f) {i u : Nat} (h : Pre f i u) : Pre f i (grow f u) := by
  refine ⟨growTo_lt hf h.1 _ (Nat.le_refl _), (grow_bit f u i).2 (.inl h.2.1), fun v hv hc j hj => ?_⟩
  rcases (grow_bit f u j).1 hj with q | ⟨a, _, q1, q2⟩
  · exact h.2.2 v hv hc j q
  · exact hc a j (h.2.2 v hv hc a q1) q2
theorem bit_lt {u i : Nat} (h : u < 18446744073709551616) (hb : u.testBit i = true) : i < 64 := by
  by_cases q : i < 64
  · exact q
  · rw [Nat.testBit_lt_two_pow (Nat.lt_of_lt_of_le h (Nat.pow_le_pow_right (n := 2) (by decide) (show 64 ≤ i by omega)))] at hb
    cases hb
theorem grow_fix {f : Nat → Nat} {u : Nat} (hu : u < 18446744073709551616) (h : grow f u = u) : Closed f u := by
  intro i j hi hj
  rw [← h]
  exact (grow_bit f u j).2 (.inr ⟨i, bit_lt hu hi, hi, hj⟩)
theorem pre_start (f : Nat → Nat) (i : Nat) (hi : i < 64) : Pre f i (2 ^ i) := by
  refine ⟨(pow_u i hi).2, by simp, fun v hv hc j hj => ?_⟩
  rw [Nat.testBit_two_pow] at hj
  simp at hj
  rw [← hj]
  exact hv
theorem clo_ex {f : Nat → Nat} (hf : Bd f) {i : Nat} : ∀ (d u : Nat), 18446744073709551616 - u ≤ d → Pre f i u → ∃ v, IsClo f i v
  | 0, u, hd, hu => absurd hu.1 (by omega)
  | d + 1, u, hd, hu => by
    by_cases h : grow f u = u
    · exact ⟨u, hu, grow_fix hu.1 h⟩
    · have := grow_le f u
      exact clo_ex hf d (grow f u) (by omega) (grow_pre hf hu)
/-- The set of the vertices that are reached from i. -/
noncomputable def cl (f : Nat → Nat) (i : Nat) : Nat := Classical.epsilon fun v => IsClo f i v
theorem cl_is {f : Nat → Nat} (hf : Bd f) {i : Nat} (hi : i < 64) : IsClo f i (cl f i) := Classical.epsilon_spec (clo_ex hf _ _ (Nat.le_refl _) (pre_start f i hi))
/-- What the loop's measure is. -/
def mz (a b : Nat) : Nat := if b = a then 0 else 18446744073709551617 - a
theorem mz_drop {f : Nat → Nat} (hf : Bd f) {u v : Nat} (hu : u < 18446744073709551616) (h : v ≠ u) : mz (grow f u) u < mz u v := by
  have := grow_le f u
  have hl := growTo_lt hf hu _ (Nat.le_refl _)
  unfold mz
  rw [if_neg h]
  split
  · omega
  · omega
noncomputable def compTo (f : Nat → Nat) : Nat → Nat × List (List Int)
  | 0 => (0, [])
  | k + 1 => if (compTo f k).1.testBit k then compTo f k else ((compTo f k).1 ||| cl f k, (compTo f k).2 ++ [memI (cl f k)])
theorem compTo_lt {f : Nat → Nat} (hf : Bd f) : ∀ k, k ≤ 64 → (compTo f k).1 < 18446744073709551616 ∧ (compTo f k).2.length ≤ k
  | 0, _ => by simp [compTo]
  | k + 1, h => by
    have ih := compTo_lt hf k (by omega)
    rw [compTo]
    split
    · exact ⟨ih.1, by omega⟩
    · exact ⟨Nat.or_lt_two_pow (n := 64) ih.1 (cl_is hf (by omega)).1.1, by simp; omega⟩
noncomputable def compL (n : Int) (E : List (Int × Int)) : List (List Int) := if okG n E then (compTo (joins f0 E) n.toNat).2 else []
theorem or_u (a b : Nat) (ha : a < 18446744073709551616) (hb : b < 18446744073709551616) : bits .or .u64 (a : Int) (b : Int) = ((a ||| b : Nat) : Int) := bits_or_u64_nat a b ha hb
theorem comp_any (n : Int) (E : List (Int × Int)) (A : Option Addr) (c : Nat) (w : World) (hT : T w) (hE : KE.C w A E.length E) (hl : E.length ≤ 1000000) (ok : okG n E = true) :
    Calls Tryd.prog 30 #[.agg #[.int .i64 n, .slice A E.length c]] w fun e w' => ∃ v, e = .returned (.tuple #[v, .int .i64 0]) ∧ KS.R 40 w' w.heap.size (fun _ => True) v (compL n E) ∧ Below w.heap.size w w' := by
  have HT := Aside0.mk hT
  have HC := Aside0.mk hE
  clear hT hE
  obtain ⟨hn0, hn1, hbd⟩ := okG_bd ok
  obtain ⟨m, rfl⟩ := Int.eq_ofNat_of_zero_le hn0
  have e1 : compL m E = (compTo (joins f0 E) m).2 := by simp [compL, ok]
  have hread := read_any (m : Int) E A c
  rw [ok] at hread
  rw [e1]
  have HR := Aside0.mk hread
  clear e1 ok hread
  generalize joins f0 E = f at *
  go_enter Tryd.func30, Tryd.ntmps30
  go_wp2_with (first
    | (go_at_call 47; go_must (refine (HR.out _ (Kd.C_below HC.out ((Below.refl _ _).alloc (Nat.le_refl _) _)) hl).mono ?_); rintro e w1 ⟨s, rfl, hs, HB1⟩; obtain rfl : s = f := hs rfl)
    | (with_reducible refine gate_ (.store 55 (.tmp 4) (.tmp 16)) rfl ?_; go_must (refine store_row rfl 55 (.tmp 4) (.tmp 16) rfl w1.heap.size 55 (setsV f0) (setsV s) (by simp [Act.eval]) (by simp [Act.eval]) (blk_at rfl) rfl (by kernel_rfl) (setsV_one s) ?_)
       intro w2 hw2 hg2
       obtain ⟨B, hB⟩ : ∃ B, B = w1.heap.size := ⟨_, rfl⟩
       have hs2 : w.heap.size < B := by have := HB1.size; simp at this; omega
       have HBw : Below w.heap.size w w1 := below_then ((Below.refl _ _).alloc (Nat.le_refl _) _) (by simp) HB1
       have HB2 : Below w.heap.size w w2 := (HBw.alloc HBw.size _).grown hg2 (by have := HBw.size; simp; omega) (fun q hq => by injection hq with hq; have := HBw.size; omega)
       have HG2 := blk_grown (blk_alloc (blk_below (blk_new w (.cells #[.int .i64 m, .slice A E.length c] 25)) HB1) _) hg2 (fun e => by injection e with e; omega)
       have g0 : w2.cell? ⟨w.heap.size, 0, none⟩ = some (.int .i64 m) := by simpa using blk_cell HG2 0
       rw [← hB] at hw2
       rw [← hB]
       have HWs := Aside0.mk hw2
       clear hw2 hg2 HG2 hB HB1 HR HBw hs))
  clear g0
  have hHB2 := HB2
  clear HB2
  go_loopw [6, 7, 8, 9, 10, 12, 22] (fun o d _ _ _ _ i wr => ∃ k : Nat, i = .int .i64 k ∧ k ≤ m ∧ d = .int .u64 (compTo s k).1 ∧ KS.R 40 wr w2.heap.size (fun _ => True) o (compTo s k).2 ∧ Below w2.heap.size w2 wr) (fun _ _ _ _ _ _ i _ => m - (intOf i).toNat)
  case atStart => exact ⟨0, rfl, by omega, rfl, Kd.R_nil _ _ _ _ _, Below.refl _ _⟩
  case round =>
    obtain ⟨k, rfl, hk, rfl, HO, HB⟩ := hrel
    by_cases hlt : k < m
    · obtain ⟨hd, hol⟩ := compTo_lt hbd k (by omega)
      have HR : Aside0 (compTo s (k + 1) = if (compTo s k).1.testBit k then compTo s k else ((compTo s k).1 ||| cl s k, (compTo s k).2 ++ [memI (cl s k)])) := ⟨rfl⟩
      have HCL := Aside0.mk (cl_is hbd (show k < 64 by omega))
      generalize compTo s k = q at *
      obtain ⟨d, out⟩ := q
      simp only at hd hol HO HR
      have hbt := Go.Proofs.YtkkfoonaobehaaaDoor.Adj.bit_one d k hd
      by_cases ht : d.testBit k = true
      · rw [if_pos ht] at hbt
        have hr := HR.out
        rw [if_pos ht] at hr
        have HR2 := Aside0.mk hr
        clear hr HR ht HCL
        go_wp2_with fail
        exact ⟨⟨k + 1, by go_num, by omega, by rw [HR2.out], by rw [HR2.out]; exact HO, HB⟩, by simp [intOf]; omega⟩
      · rw [if_neg ht] at hbt
        have hr := HR.out
        rw [if_neg ht] at hr
        have HR2 := Aside0.mk hr
        obtain ⟨hpw, hpl⟩ := pow_u k (by omega)
        have hps := Aside0.mk (pre_start s k (by omega))
        clear hr HR ht
        generalize cl s k = cc at *
        go_wp2_with fail
        obtain ⟨wo, rfl⟩ : ∃ wo : World, wo = wr := ⟨_, rfl⟩
        go_loopw [9, 10, 12] (fun a b _ wr => ∃ u v : Nat, a = .int .u64 u ∧ b = .int .u64 v ∧ Aside0 (Pre s k u) ∧ Aside0 (v = u → Closed s u) ∧ u < 18446744073709551616 ∧ Below wo.heap.size wo wr) (fun a b _ _ => mz (intOf a).toNat (intOf b).toNat)
        case atStart => 
          refine ⟨2 ^ k, 0, rfl, rfl, hps, ⟨fun e => ?_⟩, hpl, Below.refl _ _⟩
          have := Nat.two_pow_pos k
          omega
        case round =>
          obtain ⟨u, v, rfl, rfl, HP, HV, hu, HB2⟩ := hrel
          by_cases huv : v = u
          · have HU : Aside0 (u = cc) := ⟨IsClo.uniq ⟨HP.out, HV.out huv⟩ HCL.out⟩
            subst huv
            have d1 : ((v : Int) == (v : Int)) = true := by simp
            have d2 : ((v : Int) != (v : Int)) = false := by simp
            have hor := or_u d v hd hu
            have HB3 := below_then HB HB.size HB2
            have hsz3 := HB3.size
            have HO3 := Kd.R_below HO HB2
            go_wp2_with (first
              | (go_at_call 50; go_must (refine (members_any v hu _ (T_below HT.out (below_then hHB2 hHB2.size HB3))).mono ?_); rintro e w9 ⟨u9, rfl, HU9, HB9⟩; obtain ⟨A9, c9, rfl, hc9, hC9⟩ := Kd.R_reads HU9
                 have HO9 := Kd.R_below HO3 HB9
                 have HB10 := below_then HB3 hsz3 HB9
                 obtain ⟨inn, how⟩ := Kd.R_own HO3
                 have HU10 := Kd.R_lower (Kd.R_new HU9 how) hsz3
                 have hsz9 := HB9.size)
              | (at_builtin; go_must (refine Kd.R_append KS w2.heap.size (by rfl) (.tmp 54) (.tmp 57) 34 40 (.slice none 0 0) 24 (by rfl) Tryd.underlying34 i40 rfl (by decide) (by decide) _ out (memI v) [.slice A9 (memI v).length c9] (fun _ => True) _ (by rfl) (by rfl) ⟨_, rfl, HU10⟩ (fun k hk => ⟨trivial, hk.2⟩) (fun _ _ => trivial) HO9 HB10 (by omega) (by omega) ?_); intro v1 w11 HO11 HB11 _ _))
            exact ⟨⟨k + 1, by go_num, by omega, by rw [HR2.out, ← HU.out], by rw [HR2.out, ← HU.out]; exact HO11, HB11⟩, by simp [intOf]; omega⟩
          · have HMZ := Aside0.mk (mz_drop hbd hu huv)
            have d1 : ((v : Int) == (u : Int)) = false := by simp; omega
            have d2 : ((v : Int) != (u : Int)) = true := by simp; omega
            have HGP := Aside0.mk (grow_pre hbd HP.out)
            have HGF : Aside0 (u = grow s u → Closed s (grow s u)) := ⟨fun e => by rw [← e]; exact grow_fix hu e.symm⟩
            clear huv
            go_wp2_with (go_at_call 50; go_must (refine (members_any u hu _ (T_below HT.out (below_then hHB2 hHB2.size (below_then HB HB.size HB2)))).mono ?_); rintro e w9 ⟨u9, rfl, HU9, HB9⟩; obtain ⟨A9, c9, rfl, hc9, hC9⟩ := Kd.R_reads HU9)
            have HB3 := below_then HB2 HB2.size HB9
            have hset := blk_below HWs.out (below_then HB HB.size HB3)
            have HST := Aside0.mk hset
            have hm64 := memI_len u
            clear hset
            go_loop [9, 12, 41] (fun a _ i => ∃ j : Nat, i = .int .i64 j ∧ j ≤ (memI u).length ∧ a = .int .u64 (growTo s u j)) (fun _ _ i => (memI u).length - (intOf i).toNat)
            case atStart => exact ⟨0, rfl, by omega, by rw [growTo_zero]⟩
            case round =>
              obtain ⟨j, rfl, hj, rfl⟩ := hrel
              have hml : (memI u).length = (mem u).length := by simp [memI]
              have hgl := growTo_lt hbd hu j (by omega)
              by_cases hjl : j < (memI u).length
              · obtain ⟨ad, ead, hx⟩ := Kd.at_int hC9 j (by omega) (by omega)
                have hr1 : rd (memI u) j = ((mem u)[j]'(by omega) : Int) := by simp [rd, memI, List.getElem?_eq_getElem (show j < (mem u).length by omega)]
                rw [hr1] at hx
                simp only [Int.toNat_natCast] at hx
                cases ead
                have hx64 := mem_lt (List.getElem_mem (show j < (mem u).length by omega))
                have HGS := Aside0.mk (growTo_step s u j (by omega))
                generalize (mem u)[j]'(by omega) = x at *
                have hcell : w9.cell? ⟨B, x, none⟩ = some (.int .u64 (s x)) := by rw [blk_cell HST.out, setsV_at s x hx64]
                have hor := or_u _ _ hgl (hbd x hx64)
                clear hr1 hml
                generalize growTo s u j = g at *
                generalize s x = y at *
                go_wp2_with fail
                exact ⟨⟨j + 1, by go_num, by omega, by rw [HGS.out]⟩, by simp [intOf]; omega⟩
              · obtain rfl : j = (memI u).length := by omega
                rw [hml]
                go_wp2_with fail
                exact ⟨⟨grow s u, u, rfl, rfl, HGP, HGF, HGP.out.1, HB3⟩, by simpa [intOf, grow] using HMZ.out⟩
    · obtain rfl : k = m := by omega
      go_wp2_with fail
      go_ret2
      exact ⟨_, rfl, Kd.R_lower HO hHB2.size, below_then hHB2 hHB2.size HB⟩
end Go.Proofs.YtkkfoonaobehaaaDoor.Comp
