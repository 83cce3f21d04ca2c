import Derived.Test.YtkkfoonaobehaaaDoorChord
import Derived.Test.YtkkfoonaobehaaaDoorSortF
namespace Go.Proofs.YtkkfoonaobehaaaDoor.Cl
open Go.RowKit Go.Proofs.YtkkfoonaobehaaaDoorW.PrintWords Go.Proofs.YtkkfoonaobehaaaDoor.Bits Go.Proofs.YtkkfoonaobehaaaDoor.Low Go.Proofs.YtkkfoonaobehaaaDoor.Sets Go.Proofs.YtkkfoonaobehaaaDoor.Read Go.Proofs.YtkkfoonaobehaaaDoor.Search Go.Proofs.YtkkfoonaobehaaaDoor.Earl Go.Proofs.YtkkfoonaobehaaaDoor.Ext Go.Proofs.YtkkfoonaobehaaaDoor.Chord Go.Proofs.YtkkfoonaobehaaaDoor.Sort Go.Proofs.YtkkfoonaobehaaaDoor.SortF
open Go.Proofs.YtkkfoonaobehaaaDoor.Kit (store_row R_grownB grownBy_set)
set_option maxHeartbeats 800000
set_option maxRecDepth 100000
set_option linter.unusedVariables false
set_option linter.unusedSimpArgs false

theorem earl_len (f : Nat → Nat) : ∀ (l : List Nat) (d : Nat) (out bs : List Nat), earl f l d out = some bs → bs.length = out.length + l.length
  | [], d, out, bs, h => by simp [earl] at h; subst h; simp
  | v :: l, d, out, bs, h => by
    rw [earl] at h
    split at h
    · have := earl_len f l _ _ bs h
      simp at this ⊢
      omega
    · cases h
theorem earl_lt (f : Nat → Nat) (hf : Bd f) : ∀ (l : List Nat) (d : Nat) (out bs : List Nat), (∀ v ∈ l, v < 64) → (∀ b ∈ out, b < 18446744073709551616) → earl f l d out = some bs → ∀ b ∈ bs, b < 18446744073709551616
  | [], d, out, bs, _, ho, h => by simp [earl] at h; subst h; exact ho
  | v :: l, d, out, bs, hl, ho, h => by
    rw [earl] at h
    split at h
    · refine earl_lt f hf l _ _ bs (fun x hx => hl x (by simp [hx])) (fun b hb => ?_) h
      rcases List.mem_append.1 hb with hb | hb
      · exact ho b hb
      · rw [List.mem_singleton.1 hb]
        exact Nat.lt_of_le_of_lt Nat.and_le_left (hf v (hl v (by simp)))
    · cases h
/-- Each vertex with its earlier neighbours. -/
def alls (bs order : List Nat) : List Nat := List.zipWith (fun b v => b ||| 2 ^ v) bs order
def insideTo (all : List Nat) (i : Nat) : Nat → Bool
  | 0 => false
  | k + 1 => insideTo all i k || (i != k && andn (all.getD i 0) (all.getD k 0) == 0)
def rawTo (all : List Nat) : Nat → List (List Int)
  | 0 => []
  | i + 1 => if insideTo all i all.length then rawTo all i else rawTo all i ++ [memI (all.getD i 0)]
theorem rawTo_len (all : List Nat) (i : Nat) : (rawTo all i).length ≤ i := by
  induction i with
  | zero => simp [rawTo]
  | succ i ih =>
    rw [rawTo]
    split
    · omega
    · simp; omega
theorem rawTo_short (all : List Nat) (i : Nat) : Short (rawTo all i) := by
  induction i with
  | zero => intro l h; simp [rawTo] at h
  | succ i ih =>
    rw [rawTo]
    split
    · exact ih
    · intro l h
      rcases List.mem_append.1 h with h | h
      · exact ih l h
      · rw [List.mem_singleton.1 h]
        have := memI_len (all.getD i 0)
        omega
/-- What Cliques answers. -/
def clqL (n : Int) (E : List (Int × Int)) : List (List Int) :=
  if okG n E then match earl (joins f0 E) (searchL (joins f0 E) n.toNat) 0 [] with
    | some bs => sortL (rawTo (alls bs (searchL (joins f0 E) n.toNat)) n.toNat)
    | none => []
  else []
def clqC (n : Int) (E : List (Int × Int)) : Int := if okG n E then if (earl (joins f0 E) (searchL (joins f0 E) n.toNat) 0 []).isSome then 0 else 11 else 1

theorem i40 : (Tryd.prog.info? 40).map (fun i => (i.zero, i.size, i.bytes)) = some (some (.slice none 0 0), 1, 24) := by kernel_rfl
/-- A block of words. -/
def rowV (xs : List Nat) : Array Value := (xs.map fun x : Nat => Value.int .u64 (x : Int)).toArray
theorem rowV_size (xs : List Nat) : (rowV xs).size = xs.length := by simp [rowV]
theorem rowV_at (xs : List Nat) (i : Nat) (h : i < xs.length) : (rowV xs)[i]? = some (.int .u64 (xs.getD i 0 : Nat)) := by simp [rowV, h]
theorem rowV_set (xs : List Nat) (i x : Nat) : (rowV xs).setIfInBounds i (.int .u64 (x : Int)) = rowV (xs.set i x) := by
  unfold rowV
  rw [List.setIfInBounds_toArray, List.map_set]
theorem rowV_zero (n : Nat) : madeCells #[Value.int .u64 0] n = rowV (List.replicate n 0) := by
  apply Array.ext'
  apply List.ext_getElem
  · simp [madeCells, rowV]
  · intro i h1 h2
    simp [madeCells, rowV, Nat.mod_one]
theorem fill_step (bs order : List Nat) (k : Nat) (h1 : k < bs.length) (h2 : k < order.length) (m : Nat) (hm : k < m) (hl : bs.length = m) (hl2 : order.length = m) :
    ((alls bs order).take k ++ List.replicate (m - k) 0).set k (bs[k] ||| 2 ^ order[k]) = (alls bs order).take (k + 1) ++ List.replicate (m - (k + 1)) 0 := by
  have hal : (alls bs order).length = m := by simp [alls, hl, hl2]
  have hk : k < (alls bs order).length := by omega
  have e : bs[k] ||| 2 ^ order[k] = (alls bs order)[k] := by simp [alls]
  rw [e]
  apply List.ext_getElem
  · simp; omega
  · intro i h3 h4
    rw [List.getElem_set]
    by_cases hik : k = i
    · subst hik
      rw [if_pos rfl, List.getElem_append_left (by simp; omega), List.getElem_take]
    · rw [if_neg hik]
      by_cases hlt : i < k
      · rw [List.getElem_append_left (by simp; omega), List.getElem_append_left (by simp; omega), List.getElem_take, List.getElem_take]
      · rw [List.getElem_append_right (by simp; omega), List.getElem_append_right (by simp; omega)]
        simp

theorem cliq_any (n : Int) (E : List (Int × Int)) (A : Option Addr) (c : Nat) (w : World) (hT : T w) (hE : KE.C w A E.length E) (hl : E.length ≤ 1000000) (h12 : n ≤ 12) :
    Calls Tryd.prog 18 #[.agg #[.int .i64 n, .slice A E.length c]] w fun e w' => ∃ v, e = .returned (.tuple #[v, .int .i64 (clqC n E)]) ∧ KS.R 40 w' w.heap.size (fun _ => True) v (clqL n E) ∧ Below w.heap.size w w' := by
  have HT := Aside0.mk hT
  have HC := Aside0.mk hE
  clear hT hE
  by_cases ok : okG n E = true
  · obtain ⟨hn0, hn1, hbd⟩ := okG_bd ok
    obtain ⟨m, rfl⟩ := Int.eq_ofNat_of_zero_le hn0
    have e1 : clqL m E = match earl (joins f0 E) (searchL (joins f0 E) m) 0 [] with | some bs => sortL (rawTo (alls bs (searchL (joins f0 E) m)) m) | none => [] := by simp [clqL, ok]
    have e3 : clqC m E = if (earl (joins f0 E) (searchL (joins f0 E) m) 0 []).isSome then 0 else 11 := by simp [clqC, ok]
    have hread := read_any (m : Int) E A c
    rw [ok] at hread
    rw [e1, e3]
    have HR := Aside0.mk hread
    clear e1 e3 ok hread
    generalize joins f0 E = f at *
    obtain ⟨s1, s2, s3⟩ := searchL_inv f m
    have hlen3 : (natsI (searchL f m)).length = m := by simp [natsI, s1]
    have S1 := Aside0.mk s1
    have S2 := Aside0.mk s2
    have HL3 := Aside0.mk hlen3
    clear s1 s2 s3 hlen3
    rcases hres : earl f (searchL f m) 0 [] with _ | bs
    · have RES := Aside0.mk hres
      clear hres
      simp only [Option.isSome_none]
      go_enter Tryd.func18, Tryd.ntmps18
      go_wp2_with (first
        | (go_at_call 47; go_must (refine (HR.out _ (Kd.C_below HC.out ((Below.refl _ _).alloc (Nat.le_refl _) _)) hl).mono ?_); rintro e w1 ⟨s, rfl, hs, HB1⟩; obtain rfl : s = f := hs rfl)
        | (with_reducible refine gate_ (.store 55 (.tmp 4) (.tmp 21)) rfl ?_; go_must (refine store_row rfl 55 (.tmp 4) (.tmp 21) rfl w1.heap.size 55 (setsV f0) (setsV s) (by simp [Act.eval]) (by simp [Act.eval]) (blk_at rfl) rfl (by kernel_rfl) (setsV_one s) ?_)
           intro w2 hw2 hg2
           obtain ⟨B, hB⟩ : ∃ B, B = w1.heap.size := ⟨_, rfl⟩
           have hs2 : w.heap.size < B := by have := HB1.size; simp at this; omega
           have HBw : Below w.heap.size w w1 := below_then ((Below.refl _ _).alloc (Nat.le_refl _) _) (by simp) HB1
           have HB2 : Below w.heap.size w w2 := (HBw.alloc HBw.size _).grown hg2 (by have := HBw.size; simp; omega) (fun q hq => by injection hq with hq; have := HBw.size; omega)
           have HG2 := blk_grown (blk_alloc (blk_below (blk_new w (.cells #[.int .i64 m, .slice A E.length c] 25)) HB1) _) hg2 (fun e => by injection e with e; omega)
           have g0 : w2.cell? ⟨w.heap.size, 0, none⟩ = some (.int .i64 m) := by simpa using blk_cell HG2 0
           rw [← hB] at hw2
           rw [← hB]
           have HWs := Aside0.mk hw2
           have HG := Aside0.mk HG2
           clear hw2 hg2 HG2 hB HB1 HR HBw hs)
        | (with_reducible refine gate_ (.load 55 (.tmp 4)) rfl ?_; first
            | (refine wpList_load_row rfl 55 (.tmp 4) rfl B (by simp [Act.eval, Act.put]) 55 (setsV s) (0, 0) _ HF3 Tryd.underlying55 rfl (by kernel_rfl) ?_)
            | (refine wpList_load_row rfl 55 (.tmp 4) rfl B (by simp [Act.eval, Act.put]) 55 (setsV s) (0, 0) _ HWs.out Tryd.underlying55 rfl (by kernel_rfl) ?_))
        | (go_at_call 48; go_must (refine (search_any s hbd m (by omega) _).mono ?_); rintro e w3 ⟨u, rfl, HU, HB3⟩; obtain ⟨A3, c3, rfl, hc3, hC3⟩ := Kd.R_reads HU; rw [show (List.map Int.ofNat (searchL s m)).length = m from HL3.out]
           have HF3 := blk_below HWs.out HB3
           have HC3 : Aside0 (KI.C w3 A3 m (natsI (searchL s m))) := ⟨by have := hC3; rw [show (List.map Int.ofNat (searchL s m)).length = m from HL3.out] at this; exact this⟩
           have hE := earl_any s hbd (searchL s m) (fun v hv => by have := S2.out v hv; omega) A3 c3 w3
           rw [HL3.out, RES.out] at hE
           have HE3 := Aside0.mk hE
           have HB4 := below_then HB2 HB2.size HB3
           clear hC3 hE)
        | (go_at_call 49; go_must (refine (HE3.out (T_below HT.out HB4) HC3.out (by rw [S1.out]; omega)).mono ?_); rintro e w5 ⟨u5, rfl, HU5, HB5⟩; simp only [Option.isSome_none, Option.isSome_some, Option.getD_none, Option.getD_some] at HU5 ⊢; obtain ⟨A5, c5, rfl, hc5, hC5⟩ := Kd.R_reads HU5))
      go_ret2
      exact ⟨_, rfl, Kd.R_nil _ _ _ _ _, below_then HB4 HB4.size HB5⟩
    · have RES := Aside0.mk hres
      have hbl := earl_len f _ _ _ _ hres
      have hbb := earl_lt f hbd _ _ _ _ (fun v hv => by have := S2.out v hv; omega) (by simp) hres
      have hbl' : Aside0 (bs.length = m) := ⟨by rw [hbl, S1.out]; simp⟩
      have HBB := Aside0.mk hbb
      clear hres hbl hbb
      simp only [Option.isSome_some]
      have hmk : ∀ W : World, (Instr.makeSlice 69 (.int .i64 (m : Int)) (.int .i64 (m : Int))).run Tryd.prog W = .ok (.slice (some ⟨W.heap.size, 0, none⟩) m m) (W.alloc (.cells (rowV (List.replicate m 0)) 53)) := by
        intro W
        rw [← rowV_zero]
        exact print_make (P := Tryd.prog) 69 53 .u64 8 Tryd.underlying69 i53 (by decide) m (by omega) W
      go_enter Tryd.func18, Tryd.ntmps18
      go_wp2_with (first
        | (go_at_call 47; go_must (refine (HR.out _ (Kd.C_below HC.out ((Below.refl _ _).alloc (Nat.le_refl _) _)) hl).mono ?_); rintro e w1 ⟨s, rfl, hs, HB1⟩; obtain rfl : s = f := hs rfl)
        | (with_reducible refine gate_ (.store 55 (.tmp 4) (.tmp 21)) rfl ?_; go_must (refine store_row rfl 55 (.tmp 4) (.tmp 21) rfl w1.heap.size 55 (setsV f0) (setsV s) (by simp [Act.eval]) (by simp [Act.eval]) (blk_at rfl) rfl (by kernel_rfl) (setsV_one s) ?_)
           intro w2 hw2 hg2
           obtain ⟨B, hB⟩ : ∃ B, B = w1.heap.size := ⟨_, rfl⟩
           have hs2 : w.heap.size < B := by have := HB1.size; simp at this; omega
           have HBw : Below w.heap.size w w1 := below_then ((Below.refl _ _).alloc (Nat.le_refl _) _) (by simp) HB1
           have HB2 : Below w.heap.size w w2 := (HBw.alloc HBw.size _).grown hg2 (by have := HBw.size; simp; omega) (fun q hq => by injection hq with hq; have := HBw.size; omega)
           have HG2 := blk_grown (blk_alloc (blk_below (blk_new w (.cells #[.int .i64 m, .slice A E.length c] 25)) HB1) _) hg2 (fun e => by injection e with e; omega)
           have g0 : w2.cell? ⟨w.heap.size, 0, none⟩ = some (.int .i64 m) := by simpa using blk_cell HG2 0
           rw [← hB] at hw2
           rw [← hB]
           have HWs := Aside0.mk hw2
           have HG := Aside0.mk HG2
           clear hw2 hg2 HG2 hB HB1 HR HBw hs)
        | (with_reducible refine gate_ (.load 55 (.tmp 4)) rfl ?_; first
            | (refine wpList_load_row rfl 55 (.tmp 4) rfl B (by simp [Act.eval, Act.put]) 55 (setsV s) (0, 0) _ HF3 Tryd.underlying55 rfl (by kernel_rfl) ?_)
            | (refine wpList_load_row rfl 55 (.tmp 4) rfl B (by simp [Act.eval, Act.put]) 55 (setsV s) (0, 0) _ HWs.out Tryd.underlying55 rfl (by kernel_rfl) ?_))
        | (go_at_call 48; go_must (refine (search_any s hbd m (by omega) _).mono ?_); rintro e w3 ⟨u, rfl, HU, HB3⟩; obtain ⟨A3, c3, rfl, hc3, hC3⟩ := Kd.R_reads HU; rw [show (List.map Int.ofNat (searchL s m)).length = m from HL3.out]
           have HF3 := blk_below HWs.out HB3
           have HC3 : Aside0 (KI.C w3 A3 m (natsI (searchL s m))) := ⟨by have := hC3; rw [show (List.map Int.ofNat (searchL s m)).length = m from HL3.out] at this; exact this⟩
           have hE := earl_any s hbd (searchL s m) (fun v hv => by have := S2.out v hv; omega) A3 c3 w3
           rw [HL3.out, RES.out] at hE
           have HE3 := Aside0.mk hE
           have HB4 := below_then HB2 HB2.size HB3
           clear hC3 hE)
        | (go_at_call 49; go_must (refine (HE3.out (T_below HT.out HB4) HC3.out (by rw [S1.out]; omega)).mono ?_); rintro e w5 ⟨u5, rfl, HU5, HB5⟩; simp only [Option.isSome_none, Option.isSome_some, Option.getD_none, Option.getD_some] at HU5 ⊢; obtain ⟨A5, c5, rfl, hc5, hC5⟩ := Kd.R_reads HU5))
      obtain ⟨_, _, hC5⟩ := R_at HU5
      have hbn : (natsI bs).length = m := by simp [natsI, hbl'.out]
      rw [hbn] at hC5 hc5
      have HC5 := Aside0.mk hC5
      have HC6 : Aside0 (KI.C w5 A3 m (natsI (searchL s m))) := ⟨Kd.C_below HC3.out HB5⟩
      have HB6 := below_then HB4 HB4.size HB5
      have HTw := Aside0.mk (T_below HT.out HB6)
      have hBs : w.heap.size ≤ w5.heap.size := HB6.size
      rw [hbn]
      clear hC5 HU5 hmk HE3 hbn HC3 HF3 HB3 HU HB5 HB4
      have hordl := S1.out
      have hord := S2.out
      have Hord := Aside0.mk hord
      have Hordl := Aside0.mk hordl
      clear hordl hord S1 S2 HL3 RES HWs HG g0
      generalize hoe : searchL s m = ord at *
      have HOE := Aside0.mk hoe
      clear hoe
      obtain ⟨G, hG⟩ : ∃ G, G = w5.heap.size := ⟨_, rfl⟩
      have hB0 : Below G w5 w5 := Below.refl _ _
      have HGs := Aside0.mk hG
      rw [← hG] at hBs ⊢
      have hst : (w5.alloc (.cells (rowV (List.replicate m 0)) 53)).heap[G]? = some (.cells (rowV (List.replicate m 0)) 53 (0, 0)) := blk_at hG
      have hbs : Below G w5 (w5.alloc (.cells (rowV (List.replicate m 0)) 53)) := hB0.alloc (by omega) _
      have HST := Aside0.mk hst
      clear hst hB0 hG
      go_loopw [10, 11, 42] (fun _ _ i wr => ∃ k : Nat, i = .int .i64 k ∧ k ≤ m ∧ wr.heap[G]? = some (.cells (rowV ((alls bs ord).take k ++ List.replicate (m - k) 0)) 53 (0, 0)) ∧ Below G w5 wr) (fun _ _ i _ => m - (intOf i).toNat)
      case atStart => exact ⟨0, rfl, by omega, by simpa using HST.out, hbs⟩
      case round =>
        obtain ⟨k, rfl, hk, hR, hB⟩ := hrel
        have hBz : Below w5.heap.size w5 wr := by rw [← HGs.out]; exact hB
        by_cases hlt : k < m
        · have hk1 : k < ord.length := by rw [Hordl.out]; exact hlt
          have hk2 : k < bs.length := by rw [hbl'.out]; exact hlt
          obtain ⟨ad, ead, hx⟩ := Kd.at_int (Kd.C_below HC6.out hBz) k (by omega) (by omega)
          obtain ⟨ad2, ead2, hx2⟩ := Kd.at_int (Kd.C_below HC5.out hBz) k (by omega) (by omega)
          have hr1 : rd (natsI ord) k = (ord[k] : Int) := by simp [rd, natsI, List.getElem?_eq_getElem hk1]
          have hr2 : rd (natsI bs) k = (bs[k] : Int) := by simp [rd, natsI, List.getElem?_eq_getElem hk2]
          rw [hr1] at hx
          rw [hr2] at hx2
          simp only [Int.toNat_natCast] at hx hx2
          cases ead
          cases ead2
          have hv := Hord.out _ (List.getElem_mem hk1)
          have hb := HBB.out _ (List.getElem_mem hk2)
          have HFI := Aside0.mk (fill_step bs ord k hk2 hk1 m hlt hbl'.out Hordl.out)
          generalize ord[k] = v at *
          generalize bs[k] = b at *
          obtain ⟨hpw, hpl⟩ := pow_u v (by omega)
          have hor : bits .or .u64 (b : Int) ((2 : Int) ^ v) = ((b ||| 2 ^ v : Nat) : Int) := by rw [show ((2 : Int) ^ v) = ((2 ^ v : Nat) : Int) by simp]; exact bits_or_u64_nat _ _ hb hpl
          have hcell : ∃ y : Int, wr.cell? ⟨G, k, none⟩ = some (.int .u64 y) := by
            exact ⟨_, (blk_cell hR k).trans (rowV_at _ k (by simp [alls, hbl'.out, Hordl.out]; omega))⟩
          obtain ⟨y, hcell⟩ := hcell
          have hfr := blk_frozen hR k
          have HRr := Aside0.mk hR
          clear hR hr1 hr2
          go_wp2_with fail
          refine ⟨⟨k + 1, by go_num, by omega, ?_, hB.setCell (by simp) _⟩, by simp [intOf]; omega⟩
          have := blk_set HRr.out k (.int .u64 ((b ||| 2 ^ v : Nat) : Int))
          rw [rowV_set, HFI.out] at this
          exact this
        · obtain rfl : k = m := by omega
          have hall : (alls bs ord).length = k := by simp [alls, hbl'.out, Hordl.out]
          have hRR : wr.heap[G]? = some (.cells (rowV (alls bs ord)) 53 (0, 0)) := by
            rw [hR, List.take_of_length_le (by omega)]
            simp
          have hbnd : ∀ i, i < k → (alls bs ord).getD i 0 < 18446744073709551616 := by
            intro i hi
            have h1 : i < bs.length := by rw [hbl'.out]; exact hi
            have h2 : i < ord.length := by rw [Hordl.out]; exact hi
            have h3 : i < (alls bs ord).length := by omega
            have : (alls bs ord).getD i 0 = bs[i] ||| 2 ^ ord[i] := by rw [List.getD_eq_getElem?_getD, List.getElem?_eq_getElem h3]; simp [alls]
            rw [this]
            exact Nat.or_lt_two_pow (n := 64) (HBB.out _ (List.getElem_mem h1)) (pow_u _ (by have := Hord.out _ (List.getElem_mem h2); omega)).2
          generalize hae : alls bs ord = al at *
          have HAE := Aside0.mk hae
          clear hae
          have HAL := Aside0.mk hall
          have HRR := Aside0.mk hRR
          have HBN := Aside0.mk hbnd
          clear hR hRR hall hbnd
          go_wp2_with fail
          obtain ⟨w7, rfl⟩ : ∃ w7 : World, w7 = wr := ⟨_, rfl⟩
          go_loopw [12, 13, 14, 15, 16, 17, 61] (fun o _ _ _ _ _ ii wr => ∃ i : Nat, ii = .int .i64 i ∧ i ≤ k ∧ KS.R 40 wr w7.heap.size (fun _ => True) o (rawTo al i) ∧ Below w7.heap.size w7 wr) (fun _ _ _ _ _ _ ii _ => k - (intOf ii).toNat)
          case atStart => exact ⟨0, rfl, by omega, Kd.R_nil _ _ _ _ _, Below.refl _ _⟩
          case round =>
            obtain ⟨i, rfl, hi, hO, hB8⟩ := hrel
            by_cases hik : i < k
            · have hai := HBN.out i hik
              have hc0 : wr.cell? ⟨G, i, none⟩ = some (.int .u64 (al.getD i 0 : Nat)) := by rw [blk_cell (blk_below HRR.out hB8), rowV_at _ i (by rw [HAL.out]; exact hik)]
              have HRW : Aside0 (rawTo al (i + 1) = if insideTo al i al.length then rawTo al i else rawTo al i ++ [memI (al.getD i 0)]) := ⟨rfl⟩
              have HIN : Aside0 (∀ q, insideTo al i (q + 1) = (insideTo al i q || (i != q && andn (al.getD i 0) (al.getD q 0) == 0))) := ⟨fun _ => rfl⟩
              have HRL := Aside0.mk (rawTo_len al i)
              generalize al.getD i 0 = a at *
              go_wp2_with fail
              obtain ⟨w8, rfl⟩ : ∃ w8 : World, w8 = wr := ⟨_, rfl⟩
              go_loop [15, 16, 17, 68] (fun ins _ _ qq => ∃ q : Nat, qq = .int .i64 q ∧ q ≤ k ∧ ins = .bool (insideTo al i q)) (fun _ _ _ qq => k - (intOf qq).toNat)
              case atStart => exact ⟨0, rfl, by omega, rfl⟩
              case round =>
                obtain ⟨q, rfl, hq, rfl⟩ := hrel
                by_cases hqk : q < k
                · have hc1 : w8.cell? ⟨G, q, none⟩ = some (.int .u64 (al.getD q 0 : Nat)) := by rw [blk_cell (blk_below HRR.out hB8), rowV_at _ q (by rw [HAL.out]; exact hqk)]
                  have hI := HIN.out q
                  have hab := HBN.out q hqk
                  generalize al.getD q 0 = b at *
                  have hnot : bits .andNot .u64 (a : Int) (b : Int) = ((andn a b : Nat) : Int) := andNot_u a b hai hab
                  have HI := Aside0.mk hI
                  clear hI
                  generalize insideTo al i q = t at *
                  by_cases h1 : t = true
                  · subst h1
                    go_wp2_with fail
                    exact ⟨⟨q + 1, by go_num, by omega, by rw [HI.out]; rfl⟩, by simp [intOf]; omega⟩
                  · have h1' : t = false := by simpa using h1
                    subst h1'
                    by_cases h2 : i = q
                    · have d1 : ((i : Int) == (q : Int)) = true := by simp [h2]
                      have d2 : ((i : Int) != (q : Int)) = false := by simp [h2]
                      have d3 : (i == q) = true := by simp [h2]
                      have d4 : (i != q) = false := by simp [h2]
                      have HI' : Aside0 (insideTo al i (q + 1) = false) := ⟨by rw [HI.out, d4]; rfl⟩
                      clear h2 HI
                      go_wp2_with fail
                      exact ⟨⟨q + 1, by go_num, by omega, by rw [HI'.out]⟩, by simp [intOf]; omega⟩
                    · have d1 : ((i : Int) == (q : Int)) = false := by simp; omega
                      have d2 : ((i : Int) != (q : Int)) = true := by simp; omega
                      have d3 : (i == q) = false := by simp; omega
                      have d4 : (i != q) = true := by simp; omega
                      have HI' : Aside0 (insideTo al i (q + 1) = (andn a b == 0)) := ⟨by rw [HI.out, d4]; simp⟩
                      generalize andn a b = z at *
                      clear h2 HI
                      go_wp2_with fail
                      refine ⟨⟨q + 1, by go_num, by omega, ?_⟩, by simp [intOf]; omega⟩
                      rw [HI'.out]
                      congr 1
                      rw [Bool.eq_iff_iff]
                      simp
                · obtain rfl : q = k := by omega
                  have hrw := HRW.out
                  rw [HAL.out] at hrw
                  have HRW' := Aside0.mk hrw
                  clear hrw HRW HIN
                  generalize insideTo al i q = t at *
                  cases t with
                  | true =>
                    go_wp2_with fail
                    have hrw := HRW'.out
                    rw [if_pos rfl] at hrw
                    exact ⟨⟨i + 1, by go_num, by omega, by rw [hrw]; exact hO, hB8⟩, by simp [intOf]; omega⟩
                  | false =>
                    have hsz8 := hB8.size
                    have HTx := Aside0.mk (T_below HTw.out (below_then (show Below w5.heap.size w5 w7 by rw [← HGs.out]; exact hB) hB.size hB8))
                    go_wp2_with (first
                      | (go_at_call 50; go_must (refine (members_any a hai _ HTx.out).mono ?_); rintro e w9 ⟨u9, rfl, HU9, HB9⟩; obtain ⟨A9, c9, rfl, hc9, hC9⟩ := Kd.R_reads HU9
                         have HO9 := Kd.R_below hO HB9
                         have HB10 := below_then hB8 hB8.size HB9
                         obtain ⟨inn, how⟩ := Kd.R_own hO
                         have HU10 := Kd.R_lower (Kd.R_new HU9 how) hB8.size
                         have hsz9 := HB9.size)
                      | (at_builtin; go_must (refine Kd.R_append KS w7.heap.size (by rfl) (.tmp 88) (.tmp 91) 34 40 (.slice none 0 0) 24 (by rfl) Tryd.underlying34 i40 rfl (by decide) (by decide) _ (rawTo al i) (memI a) [.slice A9 (memI a).length c9] (fun _ => True) _ (by rfl) (by rfl) ⟨_, rfl, HU10⟩ (fun k hk => ⟨trivial, hk.2⟩) (fun _ _ => trivial) HO9 HB10 (by omega) (by have := HRL.out; omega) ?_); intro v1 w11 HO11 HB11 _ _))
                    have hrw := HRW'.out
                    rw [if_neg (by simp)] at hrw
                    exact ⟨⟨i + 1, by go_num, by omega, by rw [hrw]; exact HO11, HB11⟩, by simp [intOf]; omega⟩
            · obtain rfl : i = k := by omega
              have h12' : (rawTo al i).length ≤ 12 := by have := rawTo_len al i; omega
              go_wp2_with (go_at_call 51; go_must (refine (sort_any (rawTo al i) _ _ _ _ _ h12' (rawTo_short al i) hO).mono ?_); rintro e w9 ⟨rfl, HO9, hg9⟩)
              go_ret2
              have hle : w.heap.size ≤ w7.heap.size := by have := hB.size; have := HB6.size; omega
              have hbz : Below w.heap.size w wr := below_then (below_then HB6 HB6.size (show Below w5.heap.size w5 w7 by rw [← HGs.out]; exact hB)) hle hB8
              obtain ⟨inn, how⟩ := Kd.R_own hO
              rw [HOE.out, HAE.out]
              exact ⟨_, rfl, Kd.R_lower HO9 hle, hbz.grown hg9 hbz.size (fun q hq => Nat.le_trans hle (own_base how q hq))⟩
  · have e0 : okG n E = false := by simpa using ok
    have e1 : clqL n E = [] := by simp [clqL, e0]
    have e3 : clqC n E = 1 := by simp [clqC, e0]
    have hread := read_any n E A c
    rw [e0] at hread
    rw [e1, e3]
    have HR := Aside0.mk hread
    clear e0 e1 e3 ok hread
    go_enter Tryd.func18, Tryd.ntmps18
    go_wp2_with (first
      | (go_at_call 47; go_must (refine (HR.out _ (Kd.C_below HC.out ((Below.refl _ _).alloc (Nat.le_refl _) _)) hl).mono ?_); rintro e w1 ⟨s, rfl, hs, HB1⟩)
      | (with_reducible refine gate_ (.store 55 (.tmp 4) (.tmp 21)) rfl ?_; go_must (refine store_row rfl 55 (.tmp 4) (.tmp 21) rfl w1.heap.size 55 (setsV f0) (setsV s) (by simp [Act.eval]) (by simp [Act.eval]) (blk_at rfl) rfl (by kernel_rfl) (setsV_one s) ?_)
         intro w2 hw2 hg2
         have HBw : Below w.heap.size w w1 := below_then ((Below.refl _ _).alloc (Nat.le_refl _) _) (by simp) HB1
         have HB2 : Below w.heap.size w w2 := (HBw.alloc HBw.size _).grown hg2 (by have := HBw.size; simp; omega) (fun q hq => by injection hq with hq; have := HBw.size; omega)
         clear hw2 hg2 HB1 HR HBw hs))
    go_ret2
    exact ⟨_, rfl, Kd.R_nil _ _ _ _ _, HB2⟩
end Go.Proofs.YtkkfoonaobehaaaDoor.Cl
