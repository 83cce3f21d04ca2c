import Derived.Test.YtkkfoonaobehaaaDoorRead
namespace Go.Proofs.YtkkfoonaobehaaaDoor.Search
open Go.RowKit Go.Proofs.YtkkfoonaobehaaaDoorW.PrintWords Go.Proofs.YtkkfoonaobehaaaDoor.Bits Go.Proofs.YtkkfoonaobehaaaDoor.Low Go.Proofs.YtkkfoonaobehaaaDoor.Sets Go.Proofs.YtkkfoonaobehaaaDoor.Kit Go.Proofs.YtkkfoonaobehaaaDoor.Read
set_option maxHeartbeats 4000000
set_option maxRecDepth 100000

def better (f : Nat → Nat) (done : Nat) (b : Int × Int) (i : Nat) : Int × Int := if done.testBit i = false ∧ b.2 < (pc (f i &&& done) : Int) then ((i : Int), (pc (f i &&& done) : Int)) else b
def pickTo (f : Nat → Nat) (done k : Nat) : Int × Int := (List.range k).foldl (better f done) (-1, -1)
theorem pickTo_succ (f : Nat → Nat) (done k : Nat) : pickTo f done (k + 1) = better f done (pickTo f done k) k := by simp [pickTo, List.range_succ]
theorem pickTo_bd (f : Nat → Nat) (done k : Nat) : -1 ≤ (pickTo f done k).1 ∧ (pickTo f done k).1 < k ∧ -1 ≤ (pickTo f done k).2 ∧ (pickTo f done k).2 ≤ 64 := by
  induction k with
  | zero => simp [pickTo]
  | succ k ih =>
    rw [pickTo_succ]
    unfold better
    have := pc_le (f k &&& done)
    split
    · simp only; omega
    · omega
/-- If some number below k is not yet done, one such is found. -/
theorem pickTo_found (f : Nat → Nat) (done k : Nat) : ((pickTo f done k).1 = -1 ∧ (pickTo f done k).2 = -1 ∧ ∀ i, i < k → done.testBit i = true) ∨ (∃ v : Nat, (pickTo f done k).1 = v ∧ v < k ∧ done.testBit v = false) := by
  induction k with
  | zero => left; simp [pickTo]
  | succ k ih =>
    rw [pickTo_succ]
    unfold better
    by_cases h : done.testBit k = false ∧ (pickTo f done k).2 < (pc (f k &&& done) : Int)
    · rw [if_pos h]
      exact .inr ⟨k, rfl, by omega, h.1⟩
    · rw [if_neg h]
      rcases ih with ⟨h1, h2, h3⟩ | ⟨v, h1, h2, h3⟩
      · left
        refine ⟨h1, h2, fun i hi => ?_⟩
        by_cases e : i = k
        · subst e
          by_cases hb : done.testBit i = true
          · exact hb
          · exact absurd ⟨by simpa using hb, by rw [h2]; omega⟩ h
        · exact h3 i (by omega)
      · exact .inr ⟨v, h1, by omega, h3⟩
def stepS (f : Nat → Nat) (n : Nat) (s : Nat × List Nat) : Nat × List Nat := (s.1 ||| 2 ^ (pickTo f s.1 n).1.toNat, s.2 ++ [(pickTo f s.1 n).1.toNat])
def runS (f : Nat → Nat) (n : Nat) : Nat → Nat × List Nat
  | 0 => (0, [])
  | r + 1 => stepS f n (runS f n r)
def searchL (f : Nat → Nat) (n : Nat) : List Nat := (runS f n n).2

theorem pigeon : ∀ (n : Nat) (l : List Nat), l.length < n → ∃ i, i < n ∧ i ∉ l
  | 0, l, h => by omega
  | n + 1, l, h => by
    by_cases hn : n ∈ l
    · have hl := List.length_erase_of_mem hn
      have : 0 < l.length := List.length_pos_of_mem hn
      obtain ⟨i, hi, hm⟩ := pigeon n (l.erase n) (by omega)
      exact ⟨i, by omega, fun h => hm ((List.mem_erase_of_ne (by omega)).2 h)⟩
    · exact ⟨n, by omega, hn⟩
theorem runS_inv (f : Nat → Nat) (n : Nat) : ∀ r, r ≤ n → (runS f n r).2.length = r ∧ (∀ i, (runS f n r).1.testBit i = true ↔ i ∈ (runS f n r).2) ∧ (∀ i ∈ (runS f n r).2, i < n) ∧ (runS f n r).2.Nodup
  | 0, _ => by simp [runS]
  | r + 1, h => by
    obtain ⟨h1, h2, h3, h4⟩ := runS_inv f n r (by omega)
    obtain ⟨i, hi, hm⟩ := pigeon n _ (by rw [h1]; omega : (runS f n r).2.length < n)
    have hf : ∃ v : Nat, (pickTo f (runS f n r).1 n).1 = v ∧ v < n ∧ (runS f n r).1.testBit v = false := by
      rcases pickTo_found f (runS f n r).1 n with ⟨_, _, h⟩ | h
      · exact absurd ((h2 i).1 (h i hi)) hm
      · exact h
    obtain ⟨v, hv, hvn, hvb⟩ := hf
    have hvm : v ∉ (runS f n r).2 := fun h => by rw [(h2 v).2 h] at hvb; cases hvb
    simp only [runS, stepS, hv, Int.toNat_natCast]
    refine ⟨by simp [h1], fun i => ?_, fun i hi => ?_, ?_⟩
    · rw [Nat.testBit_or, Nat.testBit_two_pow, List.mem_append, List.mem_singleton, Bool.or_eq_true, h2 i, decide_eq_true_eq]
      constructor <;> rintro (h | h) <;> first | exact .inl h | exact .inr h.symm
    · rcases List.mem_append.1 hi with hi | hi
      · exact h3 i hi
      · rw [List.mem_singleton.1 hi]; exact hvn
    · rw [List.nodup_append]
      exact ⟨h4, by simp, fun a ha b hb => by rw [List.mem_singleton.1 hb]; exact fun e => hvm (e ▸ ha)⟩
theorem runS_pick (f : Nat → Nat) (n r : Nat) (h : r < n) : ∃ v : Nat, (pickTo f (runS f n r).1 n).1 = v ∧ v < n ∧ (runS f n r).1.testBit v = false := by
  obtain ⟨h1, h2, h3, h4⟩ := runS_inv f n r (by omega)
  obtain ⟨i, hi, hm⟩ := pigeon n _ (by rw [h1]; omega : (runS f n r).2.length < n)
  rcases pickTo_found f (runS f n r).1 n with ⟨_, _, h⟩ | h
  · exact absurd ((h2 i).1 (h i hi)) hm
  · exact h
theorem runS_lt (f : Nat → Nat) (n : Nat) (hn : n ≤ 64) (r : Nat) (h : r ≤ n) : (runS f n r).1 < 18446744073709551616 := by
  apply Nat.lt_pow_two_of_testBit (n := 64)
  intro i hi
  obtain ⟨_, h2, h3, _⟩ := runS_inv f n r h
  rw [← Bool.not_eq_true, h2 i]
  intro hm
  have := h3 i hm
  omega

theorem bit_test (d j : Nat) (hd : d < 18446744073709551616) : bits .and .u64 ((d : Int) / 2 ^ j) 1 = 0 ↔ d.testBit j = false := by
  have e : ((d : Int) / 2 ^ j) = ((d / 2 ^ j : Nat) : Int) := by simp
  rw [e, show (1 : Int) = ((1 : Nat) : Int) from rfl, and_u _ _ (Nat.lt_of_le_of_lt (Nat.div_le_self _ _) hd) (by decide), Nat.and_one_is_mod, Nat.testBit_eq_decide_div_mod_eq]
  have : d / 2 ^ j % 2 = 0 ∨ d / 2 ^ j % 2 = 1 := by omega
  rcases this with h | h <;> simp [h]
theorem pow_u (k : Nat) (hk : k < 64) : IntKind.u64.wrap ((2 : Int) ^ k) = ((2 ^ k : Nat) : Int) ∧ 2 ^ k < 18446744073709551616 := by
  have h : 2 ^ k < 2 ^ 64 := Nat.pow_lt_pow_right (by decide) hk
  have e : ((2 : Int) ^ k) = ((2 ^ k : Nat) : Int) := by simp
  exact ⟨by rw [e]; exact wrap_u _ h, h⟩
theorem search_any (f : Nat → Nat) (hf : Bd f) (n : Nat) (hn : n ≤ 64) (w : World) :
    Calls Tryd.prog 48 #[.agg (setsV f), .int .i64 n] w fun e w' => ∃ v, e = .returned v ∧ Kd.R KI 3 w' w.heap.size (fun _ => True) v ((searchL f n).map Int.ofNat) ∧ Below w.heap.size w w' := by
  go_enter Tryd.func48, Tryd.ntmps48
  go_wp2_with fail
  go_loopw [5, 6, 7, 8, 9, 10, 12] (fun o d _ _ _ _ r wr => ∃ k : Nat, r = .int .i64 k ∧ k ≤ n ∧ d = .int .u64 (runS f n k).1 ∧ wr.heap[w.heap.size]? = some (.cells (setsV f) 55 (0, 0)) ∧ Kd.R KI 3 wr w.heap.size (fun _ => True) o ((runS f n k).2.map Int.ofNat) ∧ Below w.heap.size w wr) (fun _ _ _ _ _ _ r _ => n - (intOf r).toNat)
  case atStart => exact ⟨0, rfl, by omega, rfl, blk_at rfl, Kd.R_nil _ _ _ _ _, (Below.refl _ _).alloc (Nat.le_refl _) _⟩
  case round =>
    obtain ⟨k, rfl, hk, rfl, HS, HO, HB⟩ := hrel
    have HS' := Aside0.mk HS
    clear HS
    by_cases hlt : k < n
    · have hd := runS_lt f n hn k (by omega)
      obtain ⟨hl, _⟩ := runS_inv f n k (by omega)
      have HP := Aside0.mk (runS_pick f n k hlt)
      have HR : Aside0 (runS f n (k + 1) = stepS f n (runS f n k)) := ⟨rfl⟩
      generalize runS f n k = s at *
      obtain ⟨d, out⟩ := s
      simp only at hd hl HO
      go_wp2_with fail
      obtain ⟨wo, rfl⟩ : ∃ wo : World, wo = wr := ⟨_, rfl⟩
      go_loop [7, 8, 9, 10, 15] (fun b m _ _ i => ∃ j : Nat, i = .int .i64 j ∧ j ≤ n ∧ b = .int .i64 (pickTo f d j).1 ∧ m = .int .i64 (pickTo f d j).2) (fun _ _ _ _ i => n - (intOf i).toNat)
      case atStart => exact ⟨0, rfl, by omega, rfl, rfl⟩
      case round =>
        obtain ⟨j, rfl, hj, rfl, rfl⟩ := hrel
        obtain ⟨p1, p2, p3, p4⟩ := pickTo_bd f d j
        by_cases hjn : j < n
        · have hfj := hf j (by omega)
          have hcell : wo.cell? ⟨w.heap.size, j, none⟩ = some (.int .u64 (f j)) := by rw [blk_cell HS'.out, setsV_at f j (by omega)]
          have hand : bits .and .u64 (f j : Int) (d : Int) = ((f j &&& d : Nat) : Int) := and_u _ _ hfj hd
          have hx : f j &&& d < 18446744073709551616 := Nat.lt_of_le_of_lt Nat.and_le_left hfj
          have HQ := Aside0.mk (pickTo_succ f d j)
          generalize pickTo f d j = bm at *
          obtain ⟨bb, mm⟩ := bm
          simp only at p1 p2 p3 p4
          go_wp2_with (go_at_call 55; refine (ones_any _ hx _).mono ?_; rintro e w' ⟨rfl, rfl⟩)
          · have h1 : d.testBit j = false := (bit_test d j hd).1 ‹_›
            have h2 : mm < (pc (f j &&& d) : Int) := ‹_›
            have hq := HQ.out
            rw [better, if_pos ⟨h1, h2⟩] at hq
            exact ⟨⟨j + 1, by go_num, by omega, by rw [hq], by rw [hq]⟩, by simp [intOf]; omega⟩
          · have h2 : (pc (f j &&& d) : Int) ≤ mm := ‹_›
            have hq := HQ.out
            rw [better, if_neg (fun h => by have := h.2; simp only at this; omega)] at hq
            exact ⟨⟨j + 1, by go_num, by omega, by rw [hq], by rw [hq]⟩, by simp [intOf]; omega⟩
          · have h1 : ¬ bits .and .u64 ((d : Int) / 2 ^ j) 1 = 0 := ‹_›
            have hq := HQ.out
            rw [better, if_neg (fun h => h1 ((bit_test d j hd).2 h.1))] at hq
            exact ⟨⟨j + 1, by go_num, by omega, by rw [hq], by rw [hq]⟩, by simp [intOf]; omega⟩
        · obtain rfl : j = n := by omega
          obtain ⟨v, hv, hvn, _⟩ := HP.out
          have HE : Aside0 (stepS f j (d, out) = (d ||| 2 ^ v, out ++ [v])) := ⟨by simp [stepS, hv]⟩
          generalize pickTo f d j = bm at *
          obtain ⟨bb, mm⟩ := bm
          subst hv
          obtain ⟨hpw, hpl⟩ := pow_u v (by omega)
          have hor : bits .or .u64 (d : Int) ((2 : Int) ^ v) = ((d ||| 2 ^ v : Nat) : Int) := by rw [show ((2 : Int) ^ v) = ((2 ^ v : Nat) : Int) by simp]; exact bits_or_u64_nat _ _ hd hpl
          have hsz := HB.size
          go_wp2_with (at_builtin; go_must (refine Kd.R_append KI w.heap.size (by rfl) (.tmp 43) (.tmp 45) 40 3 (.int .i64 0) 8 (by rfl) Tryd.underlying40 i3 rfl (by decide) (by decide) _ (out.map Int.ofNat) (v : Int) [.int .i64 v] (fun _ => True) (fun _ => False) (by rfl) (by rfl) rfl (fun _ h => h.elim) (fun _ _ => trivial) HO HB hsz (by simp; omega) ?_); intro v1 w1 HO1 HB1 hgr _; have HS1 := Aside0.mk (blk_grown HS'.out hgr (Kd.R_ne HO HS'.out (by decide))))
          have h := HR.out.trans HE.out
          exact ⟨⟨k + 1, by go_num, by omega, by rw [h], HS1.out, by rw [h]; simpa using HO1, HB1⟩, by simp [intOf]; omega⟩
    · obtain rfl : k = n := by omega
      go_wp2
      go_ret
      exact ⟨_, rfl, HO, HB⟩
end Go.Proofs.YtkkfoonaobehaaaDoor.Search
