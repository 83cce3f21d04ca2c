import Derived.Test.YtkkfoonaobehaaaDoorLow
import Derived.Deep.DeepMust
namespace Go.Proofs.YtkkfoonaobehaaaDoor.Sets
open Go.RowKit Go.Proofs.YtkkfoonaobehaaaDoorW.PrintWords Go.Proofs.YtkkfoonaobehaaaDoor.Bits Go.Proofs.YtkkfoonaobehaaaDoor.Low
set_option maxHeartbeats 4000000
set_option maxRecDepth 100000

/-- 64 words. -/
def setsV (f : Nat → Nat) : Array Value := ((List.range 64).map fun i => Value.int .u64 (f i)).toArray
theorem setsV_size (f : Nat → Nat) : (setsV f).size = 64 := by simp [setsV]
theorem setsV_at (f : Nat → Nat) (i : Nat) (h : i < 64) : (setsV f)[i]? = some (.int .u64 (f i)) := by simp [setsV, h]
def put (f : Nat → Nat) (i x : Nat) : Nat → Nat := fun j => if j = i then x else f j
theorem setsV_set (f : Nat → Nat) (i x : Nat) : (setsV f).setIfInBounds i (.int .u64 x) = setsV (put f i x) := by
  unfold setsV
  rw [List.setIfInBounds_toArray]
  congr 1
  apply List.ext_getElem
  · simp
  · intro j h1 h2
    rw [List.getElem_set]
    simp [put]
    by_cases h : i = j
    · simp [h]
    · have h' : ¬ j = i := fun e => h e.symm
      simp [h, h']
def Bd (f : Nat → Nat) : Prop := ∀ i, i < 64 → f i < 18446744073709551616
def join (f : Nat → Nat) (i k : Nat) : Nat → Nat := put (put f i (f i ||| 2 ^ k)) k (put f i (f i ||| 2 ^ k) k ||| 2 ^ i)

theorem join_core (b i k : Nat) (x y p q z1 z2 : Nat) (w : World) (hi : i < 64) (hk : k < 64)
   (hp : IntKind.u64.wrap ((2 : Int) ^ k) = (p : Int)) (hq : IntKind.u64.wrap ((2 : Int) ^ i) = (q : Int))
   (hz1 : bits .or .u64 (x : Int) (p : Int) = (z1 : Int)) (hz2 : bits .or .u64 (y : Int) (q : Int) = (z2 : Int))
   (c1 : w.cell? ⟨b, i, none⟩ = some (.int .u64 x)) (f1 : w.frozen? ⟨b, i, none⟩ = false)
   (c2 : (w.setCell ⟨b, i, none⟩ (.int .u64 z1)).cell? ⟨b, k, none⟩ = some (.int .u64 y)) (f2 : w.frozen? ⟨b, k, none⟩ = false) :
    Calls Tryd.prog 40 #[.pointer (some ⟨b, 0, none⟩), .int .i64 i, .int .i64 k] w fun e w' => e = .returned (.tuple #[]) ∧ ∃ n, w' = ((w.setCell ⟨b, i, none⟩ (.int .u64 z1)).setCell ⟨b, k, none⟩ (.int .u64 z2)).drewN n := by
  have g1 : (0 : Int) ≤ (i : Int) := by omega
  have g2 : (i : Int) < 64 := by omega
  have g3 : (0 : Int) ≤ (k : Int) := by omega
  have g4 : (k : Int) < 64 := by omega
  go_enter Tryd.func40, Tryd.ntmps40
  go_wp2
  go_region
  all_goals go_wp2
  go_region
  all_goals go_wp2
  all_goals (go_end0; exact ⟨rfl, 2, rfl⟩)

theorem grownBy_set (W : World) (b i : Nat) (v : Value) : W.grownBy (W.setCell ⟨b, i, none⟩ v) (some b) :=
  ⟨rfl, rfl, rfl, by simp [World.setCell], fun k _ hk => Below.heap_setCell W _ v k (fun e => hk (by simp at e; rw [e]))⟩
theorem put_at (f : Nat → Nat) (i x : Nat) : put f i x i = x := by simp [put]
theorem join_bd {f : Nat → Nat} (h : Bd f) {i k : Nat} (hi : i < 64) (hk : k < 64) : Bd (join f i k) := by
  intro j hj
  have hp : ∀ j, j < 64 → 2 ^ j < 2 ^ 64 := fun j hj => Nat.pow_lt_pow_right (by decide) hj
  have h1 : ∀ x y : Nat, x < 18446744073709551616 → y < 64 → x ||| 2 ^ y < 18446744073709551616 := fun x y hx hy => Nat.or_lt_two_pow (n := 64) hx (hp y hy)
  have h2 : put f i (f i ||| 2 ^ k) k < 18446744073709551616 := by
    unfold put
    split
    · exact h1 _ _ (h i hi) hk
    · exact h k hk
  unfold join
  show put _ k _ j < _
  rw [put]
  split
  · exact h1 _ _ h2 hi
  · unfold put
    split
    · exact h1 _ _ (h i hi) hk
    · exact h j hj
theorem join_any (f : Nat → Nat) (hf : Bd f) (b i k : Nat) (t : TypeId) (w : World) (hi : i < 64) (hk : k < 64) (hb : w.heap[b]? = some (.cells (setsV f) t (0, 0))) :
    Calls Tryd.prog 40 #[.pointer (some ⟨b, 0, none⟩), .int .i64 i, .int .i64 k] w fun e w' => e = .returned (.tuple #[]) ∧ w'.heap[b]? = some (.cells (setsV (join f i k)) t (0, 0)) ∧ w.grownBy w' (some b) := by
  have hp : ∀ j : Nat, j < 64 → 2 ^ j < 2 ^ 64 := fun j hj => Nat.pow_lt_pow_right (by decide) hj
  have hw : ∀ j : Nat, j < 64 → IntKind.u64.wrap ((2 : Int) ^ j) = ((2 ^ j : Nat) : Int) := fun j hj => by
    have := hp j hj
    have e : ((2 : Int) ^ j) = ((2 ^ j : Nat) : Int) := by simp
    rw [e]
    exact wrap_u _ (by omega)
  have hb1 := blk_set hb i (.int .u64 (f i ||| 2 ^ k : Nat))
  rw [setsV_set] at hb1
  have h2 : put f i (f i ||| 2 ^ k) k < 18446744073709551616 := by
    unfold put
    split
    · exact Nat.or_lt_two_pow (n := 64) (hf i hi) (hp k hk)
    · exact hf k hk
  refine (join_core b i k (f i) (put f i (f i ||| 2 ^ k) k) (2 ^ k) (2 ^ i) (f i ||| 2 ^ k) _ w hi hk (hw k hk) (hw i hi) (bits_or_u64_nat _ _ (hf i hi) (hp k hk)) (bits_or_u64_nat _ _ h2 (hp i hi)) ?_ (blk_frozen hb i) ?_ (blk_frozen hb k)).mono ?_
  · rw [blk_cell hb, setsV_at f i hi]
  · rw [blk_cell hb1, setsV_at _ k hk]
  · rintro e w' ⟨rfl, n, rfl⟩
    refine ⟨rfl, ?_, ?_⟩
    · have := blk_set hb1 k (.int .u64 (put f i (f i ||| 2 ^ k) k ||| 2 ^ i : Nat))
      rw [setsV_set] at this
      exact blk_drewN this n
    · have h := (grownBy_set w b i (.int .u64 (f i ||| 2 ^ k : Nat))).trans (grownBy_set _ b k (.int .u64 (put f i (f i ||| 2 ^ k) k ||| 2 ^ i : Nat)))
      exact ⟨h.os, h.tape, h.output, h.size, h.block⟩

/-! ### writing a graph -/
abbrev KE : Kd (Int × Int) := Kd.pair (Kd.int .i64) (Kd.int .i64)
theorem i46 : (Tryd.prog.info? 46).map (fun i => (i.zero, i.size, i.bytes)) = some (some (.agg #[.int .i64 0, .int .i64 0]), 2, 16) := by kernel_rfl
def rowE (f : Nat → Nat) (i : Nat) : List (Int × Int) := ((memI (f i)).filter (fun k => decide ((i : Int) < k))).map fun k => ((i : Int), k)
def edgesOf (f : Nat → Nat) : Nat → List (Int × Int)
  | 0 => []
  | n + 1 => edgesOf f n ++ rowE f n
theorem rowE_len (f : Nat → Nat) (i : Nat) : (rowE f i).length ≤ 64 := by
  have h1 := memI_len (f i)
  have h2 := List.length_filter_le (fun k => decide ((i : Int) < k)) (memI (f i))
  simp [rowE]
  omega
theorem edgesOf_len (f : Nat → Nat) (n : Nat) : (edgesOf f n).length ≤ 64 * n := by
  induction n with
  | zero => simp [edgesOf]
  | succ n ih => have := rowE_len f n; simp [edgesOf]; omega
theorem blk_at {w : World} {o : Obj} {n : Nat} (h : n = w.heap.size) : (w.alloc o).heap[n]? = some o := by rw [h]; exact blk_new w o
theorem R_at {α : Type} {d : Kd α} {e base n c : Nat} {w : World} {ok : Nat → Prop} {A : Option Addr} {xs : List α} (h : d.R e w base ok (.slice A n c) xs) : n = xs.length ∧ n ≤ c ∧ d.C w A xs.length xs := by
  obtain ⟨A', c', he, hl, hc⟩ := Kd.R_reads h
  injection he with h1 h2 h3
  subst h1 h2 h3
  exact ⟨rfl, hl, hc⟩
theorem rowE_part (f : Nat → Nat) (i j : Nat) (hj : j < (memI (f i)).length) : (((memI (f i)).take (j + 1)).filter (fun k => decide ((i : Int) < k))).map (fun k => ((i : Int), k)) =
    (((memI (f i)).take j).filter (fun k => decide ((i : Int) < k))).map (fun k => ((i : Int), k)) ++ if (i : Int) < rd (memI (f i)) j then [((i : Int), rd (memI (f i)) j)] else [] := by
  rw [List.take_succ_eq_append_getElem hj]
  simp only [List.filter_append, List.map_append, rd, Int.toNat_natCast, List.getD_eq_getElem?_getD, List.getElem?_eq_getElem hj, Option.getD_some]
  congr 1
  by_cases h : (i : Int) < (memI (f i))[j] <;> simp [h]
def partE (f : Nat → Nat) (i j : Nat) : List (Int × Int) := (((memI (f i)).take j).filter (fun k => decide ((i : Int) < k))).map (fun k => ((i : Int), k))
theorem partE_len (f : Nat → Nat) (i j : Nat) : (partE f i j).length ≤ 64 := by
  have h1 := memI_len (f i)
  have h2 := List.length_filter_le (fun k => decide ((i : Int) < k)) ((memI (f i)).take j)
  have h3 : ((memI (f i)).take j).length ≤ 64 := by simp; omega
  simp only [partE, List.length_map]
  omega
theorem memI_rd (u : Nat) (j : Nat) (hj : j < (memI u).length) : 0 ≤ rd (memI u) j ∧ rd (memI u) j < 64 := by
  have : rd (memI u) j ∈ memI u := by
    simp only [rd, Int.toNat_natCast, List.getD_eq_getElem?_getD, List.getElem?_eq_getElem hj, Option.getD_some]
    exact List.getElem_mem hj
  obtain ⟨x, hx, he⟩ := List.mem_map.1 this
  have := mem_lt hx
  rw [← he]
  simp
  omega
theorem graph_any (f : Nat → Nat) (hf : Bd f) (b n : Nat) (t : TypeId) (w : World) (hn : n ≤ 64) (hb : w.heap[b]? = some (.cells (setsV f) t (0, 0))) (hT : T w) :
    Calls Tryd.prog 41 #[.pointer (some ⟨b, 0, none⟩), .int .i64 n] w fun e w' => ∃ v, e = .returned (.agg #[.int .i64 n, v]) ∧ Kd.R KE 46 w' w.heap.size (fun _ => True) v (edgesOf f n) ∧ Below w.heap.size w w' := by
  have HT := Aside0.mk hT
  have Hb := Aside0.mk hb
  have hblt := blk_lt hb
  clear hT hb
  go_enter Tryd.func41, Tryd.ntmps41
  go_wp2
  go_loopw [6, 8, 12] (fun _ _ i wr => ∃ (k : Nat) (v : Value), i = .int .i64 k ∧ k ≤ n ∧ wr.heap[w.heap.size + 1]? = some (.cells #[.int .i64 n, v] 25 (0, 0)) ∧ wr.heap[w.heap.size]? = some (.cells #[.int .i64 0, .slice none 0 0] 25 (0, 0)) ∧ Kd.R KE 46 wr w.heap.size (fun _ => True) v (edgesOf f k) ∧ Below w.heap.size w wr) (fun _ _ i _ => n - (intOf i).toNat)
  case atStart => exact ⟨0, .slice none 0 0, rfl, by omega, blk_at (by simp), blk_alloc (blk_at rfl) _, Kd.R_nil _ _ _ _ _, ((Below.refl _ _).alloc (by omega) _).alloc (by simp) _⟩
  case round =>
    obtain ⟨k, v, rfl, hk, HG, HZ, HO, HB⟩ := hrel
    obtain ⟨A, c, rfl, hc, hC⟩ := Kd.R_reads HO
    have g0 : wr.cell? ⟨w.heap.size + 1, 0, none⟩ = some (.int .i64 n) := by simpa using blk_cell HG 0
    have g1 : wr.cell? ⟨w.heap.size + 1, 1, none⟩ = some (.slice A (edgesOf f k).length c) := by simpa using blk_cell HG 1
    have z0 : wr.cell? ⟨w.heap.size, 0, none⟩ = some (.int .i64 0) := by simpa using blk_cell HZ 0
    have z1 : wr.cell? ⟨w.heap.size, 1, none⟩ = some (.slice none 0 0) := by simpa using blk_cell HZ 1
    have gf0 := blk_frozen HG 0
    have gf1 := blk_frozen HG 1
    have zf0 := blk_frozen HZ 0
    have zf1 := blk_frozen HZ 1
    have HG' := Aside0.mk HG
    have HZ' := Aside0.mk HZ
    clear HG HZ
    by_cases hlt : k < n
    · have hcell : wr.cell? ⟨b, k, none⟩ = some (.int .u64 (f k)) := by
        rw [blk_cell (blk_below Hb.out HB), setsV_at f k (by omega)]
      have hlen := memI_len (f k)
      have hel := edgesOf_len f k
      go_wp2_with (first
        | (go_at_call 50; refine (members_any (f k) (hf k (by omega)) _ (T_below HT.out HB)).mono ?_; rintro e w1 ⟨u, rfl, HU, HB1⟩; obtain ⟨A2, c2, rfl, hc2, hC2⟩ := Kd.R_reads HU))
      have HB2 := below_then HB HB.size HB1
      have HO1 := Kd.R_below HO HB1
      have HG1 := blk_below HG'.out HB1
      have HZ1 := blk_below HZ'.out HB1
      clear g0 g1 z0 z1 gf0 gf1 zf0 zf1 hcell hC2 hC
      obtain ⟨wo, rfl⟩ : ∃ wo : World, wo = wr := ⟨_, rfl⟩
      go_loopw [8, 22] (fun _ j wr2 => ∃ (q : Nat) (v2 : Value), j = .int .i64 q ∧ q ≤ (memI (f k)).length ∧ wr2.heap[w.heap.size + 1]? = some (.cells #[.int .i64 n, v2] 25 (0, 0)) ∧ wr2.heap[w.heap.size]? = some (.cells #[.int .i64 0, .slice none 0 0] 25 (0, 0)) ∧ Kd.R KE 46 wr2 w.heap.size (fun _ => True) v2 (edgesOf f k ++ partE f k q) ∧ Kd.R KI 3 wr2 w.heap.size (fun _ => True) (.slice A2 (memI (f k)).length c2) (memI (f k)) ∧ Below w.heap.size w wr2) (fun _ j _ => (memI (f k)).length - (intOf j).toNat)
      case atStart => exact ⟨0, _, rfl, by omega, HG1, HZ1, by simpa [partE] using HO1, Kd.R_lower HU HB.size, HB2⟩
      case round =>
        obtain ⟨q, v2, rfl, hq, G, Z, O2, U2, B2⟩ := hrel
        have hpl := partE_len f k q
        have hbl := B2.size
        by_cases hql : q < (memI (f k)).length
        · obtain ⟨_, _, hC2⟩ := R_at U2
          obtain ⟨ad, ead, hx⟩ := Kd.at_int hC2 q (by omega) (by omega)
          simp only [Int.toNat_natCast] at hx
          obtain ⟨hr0, hr1⟩ := memI_rd (f k) q hql
          cases ead
          have HP := Aside0.mk (rowE_part f k q hql)
          obtain ⟨A3, c3, rfl, hc3, hC3⟩ := Kd.R_reads O2
          have g1 : wr.cell? ⟨w.heap.size + 1, 1, none⟩ = some (.slice A3 (edgesOf f k ++ partE f k q).length c3) := by simpa using blk_cell G 1
          have hne := Kd.R_ne O2 G (by decide)
          have Gx := Aside0.mk G
          have Zx := Aside0.mk Z
          have Nx := Aside0.mk hne
          have hL : (edgesOf f k ++ partE f k q).length ≤ 64 * 64 + 64 := by simp; omega
          generalize hE : edgesOf f k ++ partE f k q = E at *
          have hE' := Aside0.mk hE
          generalize hR : rd (memI (f k)) q = r at *
          clear G Z hne hC2 hC3 hE hR
          by_cases hri : (k : Int) < r
          · go_wp2_with (first
              | (at_builtin; go_must (refine Kd.R_append KE w.heap.size (by rfl) (.tmp 30) (.tmp 34) 22 46 (.agg #[.int .i64 0, .int .i64 0]) 16 (by rfl) Tryd.underlying22 i46 rfl (by decide) (by decide) _ E ((k : Int), r) [.int .i64 k, .int .i64 r] (fun _ => True) (fun _ => False) (by rfl) (by rfl) ⟨[.int .i64 k], [.int .i64 r], rfl, rfl, rfl⟩ (fun _ h => h.elim) (fun _ _ => trivial) O2 B2 hbl (by omega) ?_); intro v1 w3 O3 B3 hgr hat; obtain ⟨A4, c4, rfl, hc4, hC4⟩ := Kd.R_reads O3; go_must (have G3 := blk_grown Gx.out hgr Nx.out); have g3 := blk_frozen G3 1; go_must (have g4 : w3.cell? ⟨w.heap.size + 1, 1, none⟩ = some (.slice A3 E.length c3) := (by simpa using blk_cell G3 1))))
            have hP := HP.out
            rw [if_pos hri] at hP
            refine ⟨⟨q + 1, .slice A4 (E.length + 1) c4, by go_num, by omega, by have := blk_set G3 1 (.slice A4 (E.length + 1) c4); simpa using this, blk_far (blk_grown Zx.out hgr (Kd.R_ne O2 Zx.out (by decide))) (by simp) _, ?_, Kd.R_set (Kd.R_over' U2 (Kd.R_typed O2) (by decide) hgr) G3 (by decide) 1 _, B3.setCell (by simp) _⟩, by simp [intOf]; omega⟩
            have := Kd.R_set O3 G3 (by decide) 1 (.slice A4 (E.length + 1) c4)
            rw [partE, hP, ← List.append_assoc, ← partE, hE'.out]
            simpa using this
          · go_wp2
            have hP := HP.out
            rw [if_neg hri, List.append_nil] at hP
            refine ⟨⟨q + 1, _, by go_num, by omega, Gx.out, Zx.out, ?_, U2, B2⟩, by simp [intOf]; omega⟩
            rw [partE, hP, ← partE, hE'.out]
            exact O2
        · obtain rfl : q = (memI (f k)).length := by omega
          go_wp2
          refine ⟨⟨k + 1, v2, by go_num, by omega, G, Z, ?_, B2⟩, by simp [intOf]; omega⟩
          rw [edgesOf, rowE]
          rw [partE, List.take_length] at O2
          exact O2
    · obtain rfl : k = n := by omega
      go_wp2
      have H1 := blk_set (blk_set HZ'.out 0 (.int .i64 k)) 1 (.slice A (edgesOf f k).length c)
      refine bodyPost_ret (results_cell_row rfl _ _ w.heap.size 25 #[.int .i64 k, .slice A (edgesOf f k).length c] (0, 0) _ rfl (by simpa using H1) Tryd.underlying25 rfl (by kernel_rfl)) rfl ?_
      refine ⟨_, rfl, Kd.R_set (Kd.R_set HO HZ'.out (by decide) 0 _) (blk_set HZ'.out 0 _) (by decide) 1 _, (HB.setCell (by simp) _).setCell (by simp) _⟩
end Go.Proofs.YtkkfoonaobehaaaDoor.Sets
