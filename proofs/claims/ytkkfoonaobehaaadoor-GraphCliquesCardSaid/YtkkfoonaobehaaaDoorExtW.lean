import Derived.Test.YtkkfoonaobehaaaDoorExt
namespace Go.Proofs.YtkkfoonaobehaaaDoor.ExtW
open Go.RowKit Go.Proofs.YtkkfoonaobehaaaDoorW.PrintWords Go.Proofs.YtkkfoonaobehaaaDoor.Bits Go.Proofs.YtkkfoonaobehaaaDoor.Low Go.Proofs.YtkkfoonaobehaaaDoor.Sets Go.Proofs.YtkkfoonaobehaaaDoor.Read Go.Proofs.YtkkfoonaobehaaaDoor.Search Go.Proofs.YtkkfoonaobehaaaDoor.Earl Go.Proofs.YtkkfoonaobehaaaDoor.Ext
open Go.Proofs.YtkkfoonaobehaaaDoor.Kit (store_row R_grownB)
set_option maxHeartbeats 4000000
set_option maxRecDepth 100000
set_option linter.unusedVariables false

/-- What Extend answers: vertices, edges, error. -/
def extN (n : Int) (E : List (Int × Int)) : Int := if okG n E then n else 0
def extE (n : Int) (E : List (Int × Int)) : List (Int × Int) := if okG n E then edgesOf (extF (joins f0 E) n.toNat) n.toNat else []
def extC (n : Int) (E : List (Int × Int)) : Int := if okG n E then 0 else 1

theorem ext_any (n : Int) (E : List (Int × Int)) (A : Option Addr) (c : Nat) (w : World) (hT : T w) (hE : KE.C w A E.length E) (hl : E.length ≤ 1000000) :
    Calls Tryd.prog 25 #[.agg #[.int .i64 n, .slice A E.length c]] w fun e w' => ∃ v, e = .returned (.tuple #[.agg #[.int .i64 (extN n E), v], .int .i64 (extC n E)]) ∧ Kd.R KE 46 w' w.heap.size (fun _ => True) v (extE n E) ∧ Below w.heap.size w w' := by
  have HT := Aside0.mk hT
  have HC := Aside0.mk hE
  clear hT hE
  by_cases ok : okG n E = true
  · obtain ⟨hn0, hn1, hbd⟩ := okG_bd ok
    obtain ⟨m, rfl⟩ := Int.eq_ofNat_of_zero_le hn0
    have e1 : extN m E = m := by simp [extN, ok]
    have e2 : extE m E = edgesOf (extF (joins f0 E) m) m := by simp [extE, ok]
    have e3 : extC m E = 0 := by simp [extC, ok]
    have hread := read_any (m : Int) E A c
    rw [ok] at hread
    rw [e1, e2, e3]
    have HR := Aside0.mk hread
    clear e1 e2 e3 ok hread
    generalize joins f0 E = f at *
    go_enter Tryd.func25, Tryd.ntmps25
    go_wp2_with (first
      | (go_at_call 47; go_must (refine (HR.out _ (Kd.C_below HC.out (((Below.refl _ _).alloc (Nat.le_refl _) _).alloc (by simp) _)) hl).mono ?_); rintro e w1 ⟨s, rfl, hs, HB1⟩; obtain rfl : s = f := hs rfl)
      | (with_reducible refine gate_ (.store 55 (.tmp 4) (.tmp 19)) rfl ?_; go_must (refine store_row rfl 55 (.tmp 4) (.tmp 19) rfl w1.heap.size 55 (setsV f0) (setsV s) (by simp [Act.eval]) (by simp [Act.eval]) (blk_at rfl) rfl (by kernel_rfl) (setsV_one s) ?_)
         intro w2 hw2 hg2
         obtain ⟨B, hB⟩ : ∃ B, B = w1.heap.size := ⟨_, rfl⟩
         have hs2 : w.heap.size + 1 < B := by have := HB1.size; simp at this; omega
         have HBw : Below w.heap.size w w1 := below_then (((Below.refl _ _).alloc (Nat.le_refl _) _).alloc (by simp) _) (by simp; omega) HB1
         have HB2 : Below w.heap.size w w2 := (HBw.alloc HBw.size _).grown hg2 (by have := HBw.size; simp; omega) (fun q hq => by injection hq with hq; have := HBw.size; omega)
         have HG2 := blk_grown (blk_alloc (blk_below (blk_alloc (blk_new w (.cells #[.int .i64 m, .slice A E.length c] 25)) (.cells #[.int .i64 0, .slice none 0 0] 25)) HB1) _) hg2 (fun e => by injection e with e; omega)
         have HZ2 := blk_grown (blk_alloc (blk_below (blk_at (w := w.alloc (.cells #[.int .i64 m, .slice A E.length c] 25)) (o := .cells #[.int .i64 0, .slice none 0 0] 25) (n := w.heap.size + 1) (by simp)) HB1) _) hg2 (fun e => by injection e with e; omega)
         have g0 : w2.cell? ⟨w.heap.size, 0, none⟩ = some (.int .i64 m) := by simpa using blk_cell HG2 0
         rw [← hB] at hw2
         rw [← hB]
         have HWs := Aside0.mk hw2
         have HG := Aside0.mk HG2
         have HZ := Aside0.mk HZ2
         clear hw2 hg2 HG2 HZ2 hB HB1 HR HBw hs))
    clear g0
    go_loopw [6, 7, 8, 9, 10, 11, 12, 13, 15, 26] (fun gn _ _ _ _ _ _ _ _ r wr => ∃ k : Nat, r = .int .i64 k ∧ k ≤ m ∧ gn = .int .u64 (runE s m k).gone ∧ wr.heap[B]? = some (.cells (setsV (runE s m k).f) 55 (0, 0)) ∧ wr.heap[w.heap.size]? = some (.cells #[.int .i64 m, .slice A E.length c] 25 (0, 0)) ∧ wr.heap[w.heap.size + 1]? = some (.cells #[.int .i64 0, .slice none 0 0] 25 (0, 0)) ∧ Below w.heap.size w wr) (fun _ _ _ _ _ _ _ _ _ r _ => m - (intOf r).toNat)
    case atStart => exact ⟨0, rfl, by omega, rfl, HWs.out, HG.out, HZ.out, HB2⟩
    case round =>
      obtain ⟨k, rfl, hk, rfl, hF, hG, hZ, HB⟩ := hrel
      have g0 : wr.cell? ⟨w.heap.size, 0, none⟩ = some (.int .i64 m) := by simpa using blk_cell hG 0
      have HF' := Aside0.mk hF
      have HG' := Aside0.mk hG
      have HZ' := Aside0.mk hZ
      clear hF hG hZ
      by_cases hlt : k < m
      · have hd := runE_lt s hbd m (by omega) k (by omega)
        obtain ⟨hl1, hl2, _, _, hbk⟩ := runE_inv s hbd m (by omega) k (by omega)
        have HP := Aside0.mk (runE_pick0 m k (runE s m k) hlt hl1 hl2)
        have HR : Aside0 (runE s m (k + 1) = stepE m (runE s m k)) := ⟨rfl⟩
        clear hl1 hl2
        generalize runE s m k = st at *
        obtain ⟨f, gone, out⟩ := st
        simp only at hd hbk
        go_wp2_with fail
        obtain ⟨wo, rfl⟩ : ∃ wo : World, wo = wr := ⟨_, rfl⟩
        go_loop [7, 8, 9, 10, 30] (fun b mm _ _ i => ∃ j : Nat, i = .int .i64 j ∧ j ≤ m ∧ b = .int .i64 (minTo f gone j).1 ∧ mm = .int .i64 (minTo f gone j).2) (fun _ _ _ _ i => m - (intOf i).toNat)
        case atStart => exact ⟨0, rfl, by omega, rfl, rfl⟩
        case round =>
          obtain ⟨j, rfl, hj, rfl, rfl⟩ := hrel
          obtain ⟨p1, p2, p3, p4⟩ := minTo_bd f gone j
          by_cases hjm : j < m
          · have hfj := hbk j (by omega)
            have hcell : wo.cell? ⟨B, j, none⟩ = some (.int .u64 (f j)) := by rw [blk_cell HF'.out, setsV_at f j (by omega)]
            have hand : bits .andNot .u64 (f j : Int) (gone : Int) = ((andn (f j) gone : Nat) : Int) := andNot_u _ _ hfj hd
            have hx := andn_lt gone hfj
            have HQ := Aside0.mk (minTo_succ f gone j)
            generalize minTo f gone j = bm at *
            obtain ⟨bb, mm⟩ := bm
            simp only at p1 p2 p3 p4
            go_wp2_with (go_at_call 55; go_must (refine (ones_any _ hx _).mono ?_); rintro e w' ⟨rfl, rfl⟩)
            · have h1 : gone.testBit j = false := (bit_test gone j hd).1 ‹_›
              have h2 : (pc (andn (f j) gone) : Int) < mm := ‹_›
              have hq := HQ.out
              rw [fewer, if_pos ⟨h1, h2⟩] at hq
              exact ⟨⟨j + 1, by go_num, by omega, by rw [hq], by rw [hq]⟩, by simp [intOf]; omega⟩
            · have h2 : mm ≤ (pc (andn (f j) gone) : Int) := ‹_›
              have hq := HQ.out
              rw [fewer, if_neg (fun h => by have := h.2; simp only at this; omega)] at hq
              exact ⟨⟨j + 1, by go_num, by omega, by rw [hq], by rw [hq]⟩, by simp [intOf]; omega⟩
            · have h1 : ¬ bits .and .u64 ((gone : Int) / 2 ^ j) 1 = 0 := ‹_›
              have hq := HQ.out
              rw [fewer, if_neg (fun h => h1 ((bit_test gone j hd).2 h.1))] at hq
              exact ⟨⟨j + 1, by go_num, by omega, by rw [hq], by rw [hq]⟩, by simp [intOf]; omega⟩
          · obtain rfl : j = m := by omega
            obtain ⟨v, hv, hvm, _, _⟩ := HP.out
            have HE : Aside0 (stepE j ⟨f, gone, out⟩ = ⟨joinsTo (mem (andn (f v) gone)) f (mem (andn (f v) gone)).length, gone ||| 2 ^ v, out ++ [v]⟩) := ⟨by simp [stepE, hv]⟩
            generalize minTo f gone j = bm at *
            obtain ⟨bb, mm⟩ := bm
            subst hv
            have hcell : wo.cell? ⟨B, v, none⟩ = some (.int .u64 (f v)) := by rw [blk_cell HF'.out, setsV_at f v (by omega)]
            have hfv := hbk v (by omega)
            have hand : bits .andNot .u64 (f v : Int) (gone : Int) = ((andn (f v) gone : Nat) : Int) := andNot_u _ _ hfv hd
            have hx := andn_lt gone hfv
            have hml := memI_len (andn (f v) gone)
            generalize andn (f v) gone = x at *
            go_wp2_with (go_at_call 50; go_must (refine (members_any x hx _ (T_below HT.out HB)).mono ?_); rintro e w3 ⟨u, rfl, HU, HB1⟩; obtain ⟨A2, c2, rfl, hc2, hC2⟩ := Kd.R_reads HU; clear hC2)
            have hm64 := hn1
            have HB3 := below_then HB HB.size HB1
            have HF3 := blk_below HF'.out HB1
            have HG3 := blk_below HG'.out HB1
            have HZ3 := blk_below HZ'.out HB1
            have HU3 := Kd.R_lower HU HB.size
            have hmm : ∀ b ∈ mem x, b < 64 := fun b hb => mem_lt hb
            have HL : Aside0 (memI x = (mem x).map Int.ofNat) := ⟨rfl⟩
            have hlm : (memI x).length = (mem x).length := by simp [memI]
            rw [hlm] at hml hc2
            rw [hlm]
            rw [hlm] at HU3
            generalize memI x = xs at *
            generalize mem x = l at *
            have Hmm := Aside0.mk hmm
            have Hlm := Aside0.mk hlm
            have Hbk := Aside0.mk hbk
            clear g0 hcell hand hfv hx hmm hlm hbk HU HB1
            have HF3' := Aside0.mk HF3
            have HG3' := Aside0.mk HG3
            have HZ3' := Aside0.mk HZ3
            clear HF3 HG3 HZ3
            obtain ⟨w4, rfl⟩ : ∃ w4 : World, w4 = wo := ⟨_, rfl⟩
            go_loopw [12, 13, 15, 61] (fun _ _ _ ii wr => ∃ i : Nat, ii = .int .i64 i ∧ i ≤ l.length ∧ wr.heap[B]? = some (.cells (setsV (joinsTo l f i)) 55 (0, 0)) ∧ wr.heap[w.heap.size]? = some (.cells #[.int .i64 j, .slice A E.length c] 25 (0, 0)) ∧ wr.heap[w.heap.size + 1]? = some (.cells #[.int .i64 0, .slice none 0 0] 25 (0, 0)) ∧ Kd.R KI 3 wr w.heap.size (fun _ => True) (.slice A2 l.length c2) xs ∧ Below w.heap.size w wr) (fun _ _ _ ii _ => l.length - (intOf ii).toNat)
            case atStart => exact ⟨0, rfl, by omega, HF3'.out, HG3'.out, HZ3'.out, HU3, HB3⟩
            case round =>
              obtain ⟨i, rfl, hi, hF, hG, hZ, hU, hB⟩ := hrel
              have F1 := Aside0.mk hF
              have G1 := Aside0.mk hG
              have Z1 := Aside0.mk hZ
              clear hF hG hZ
              by_cases hil : i < l.length
              · have hC := (R_at hU).2.2
                obtain ⟨ad, ead, hx⟩ := Kd.at_int hC i (by omega) (by have := Hlm.out; omega)
                have hrd : rd xs i = (l[i] : Int) := by rw [HL.out]; simp [rd, List.getElem?_eq_getElem hil]
                rw [hrd] at hx
                simp only [Int.toNat_natCast] at hx
                cases ead
                have ha := Hmm.out _ (List.getElem_mem hil)
                have HJ : Aside0 (joinsTo l f (i + 1) = joinRow (joinsTo l f i) l[i] (l.take i)) := ⟨by simp [joinsTo, List.getElem?_eq_getElem hil]⟩
                generalize l[i] = a at *
                have hic : i ≤ c2 := by omega
                clear hC hrd
                go_wp2_with fail
                clear hx
                obtain ⟨w5, rfl⟩ : ∃ w5 : World, w5 = wr := ⟨_, rfl⟩
                go_loopw [15, 70] (fun _ qq wr => ∃ q : Nat, qq = .int .i64 q ∧ q ≤ i ∧ wr.heap[B]? = some (.cells (setsV (joinRow (joinsTo l f i) a (l.take q))) 55 (0, 0)) ∧ wr.heap[w.heap.size]? = some (.cells #[.int .i64 j, .slice A E.length c] 25 (0, 0)) ∧ wr.heap[w.heap.size + 1]? = some (.cells #[.int .i64 0, .slice none 0 0] 25 (0, 0)) ∧ Kd.R KI 3 wr w.heap.size (fun _ => True) (.slice (some ad) l.length c2) xs ∧ Below w.heap.size w wr) (fun _ qq _ => i - (intOf qq).toNat)
                case atStart => exact ⟨0, rfl, by omega, F1.out, G1.out, Z1.out, hU, hB⟩
                case round =>
                  obtain ⟨q, rfl, hq, hF, hG, hZ, hU, hB⟩ := hrel
                  have F2 := Aside0.mk hF
                  have G2 := Aside0.mk hG
                  have Z2 := Aside0.mk hZ
                  clear hF hG hZ
                  by_cases hqi : q < i
                  · have hC := (R_at hU).2.2
                    obtain ⟨ad', ead, hx⟩ := Kd.at_int hC q (by omega) (by have := Hlm.out; omega)
                    have hql : q < l.length := by omega
                    have hrd : rd xs q = (l[q] : Int) := by rw [HL.out]; simp [rd, List.getElem?_eq_getElem hql]
                    rw [hrd] at hx
                    simp only [Int.toNat_natCast] at hx
                    cases ead
                    have hb := Hmm.out _ (List.getElem_mem hql)
                    have HJ2 : Aside0 (joinRow (joinsTo l f i) a (l.take (q + 1)) = join (joinRow (joinsTo l f i) a (l.take q)) a l[q]) := ⟨joinRow_snoc _ _ _ _ hql⟩
                    have hBd : Bd (joinRow (joinsTo l f i) a (l.take q)) := joinRow_bd (joinsTo_bd Hbk.out Hmm.out i hi) ha _ (fun b hb => Hmm.out b (List.mem_of_mem_take hb))
                    generalize l[q] = b at *
                    have HBd := Aside0.mk hBd
                    clear hC hrd hBd
                    go_wp2_with (go_at_call 40; go_must (refine (join_any _ HBd.out B a b 55 _ ha hb F2.out).mono ?_); rintro e w6 ⟨rfl, hw6, hg6⟩)
                    refine ⟨⟨q + 1, by go_num, by omega, by rw [HJ2.out]; exact hw6, blk_grown G2.out hg6 (fun e => by injection e with e; omega), blk_grown Z2.out hg6 (fun e => by injection e with e; omega), R_grownB hU F2.out (by decide) hg6, hB.grown hg6 hB.size (fun q hq => by injection hq with hq; omega)⟩, by simp [intOf]; omega⟩
                  · obtain rfl : q = i := by omega
                    go_wp2_with fail
                    exact ⟨⟨q + 1, by go_num, by omega, by rw [HJ.out]; exact F2.out, G2.out, Z2.out, hU, hB⟩, by simp [intOf]; omega⟩
              · obtain rfl : i = l.length := by omega
                obtain ⟨hpw, hpl⟩ := pow_u v (by omega)
                have hor : bits .or .u64 (gone : Int) ((2 : Int) ^ v) = ((gone ||| 2 ^ v : Nat) : Int) := by rw [show ((2 : Int) ^ v) = ((2 ^ v : Nat) : Int) by simp]; exact bits_or_u64_nat _ _ hd hpl
                go_wp2_with fail
                have h := HR.out.trans HE.out
                exact ⟨⟨k + 1, by go_num, by omega, by rw [h], by rw [h]; exact F1.out, G1.out, Z1.out, hB⟩, by simp [intOf]; omega⟩
      · obtain rfl : k = m := by omega
        have hn : (k : Int) ≤ 64 := hn1
        obtain ⟨_, _, _, _, hbk⟩ := runE_inv s hbd k (by omega) k (by omega)
        have g1 : wr.cell? ⟨w.heap.size, 1, none⟩ = some (.slice A E.length c) := by simpa using blk_cell HG'.out 1
        go_wp2_with (go_at_call 41; go_must (refine (graph_any (runE s k k).f hbk B k 55 _ (by omega) HF'.out (T_below HT.out HB)).mono ?_); go_must (rintro e w7 ⟨v7, rfl, H7, HB7⟩; obtain ⟨A7, c7, rfl, hc7, hC7⟩ := Kd.R_reads H7; have Z7 := blk_below HZ'.out HB7; have z0 : w7.cell? ⟨w.heap.size + 1, 0, none⟩ = some (.int .i64 0) := (by simpa using blk_cell Z7 0); have z1 : w7.cell? ⟨w.heap.size + 1, 1, none⟩ = some (.slice none 0 0) := (by simpa using blk_cell Z7 1); have zf0 := blk_frozen Z7 0; have zf1 := blk_frozen Z7 1; have Z7' := Aside0.mk Z7; clear Z7 hC7))
        have H8 := blk_set (blk_set Z7'.out 0 (.int .i64 k)) 1 (.slice A7 (edgesOf (runE s k k).f k).length c7)
        refine bodyPost_ret (results_ct rfl _ _ (w.heap.size + 1) 25 #[.int .i64 k, .slice A7 (edgesOf (runE s k k).f k).length c7] (0, 0) _ (by simp) (by simpa using H8) Tryd.underlying25 rfl (by kernel_rfl)) rfl ?_
        exact ⟨_, rfl, Kd.R_set (Kd.R_set (Kd.R_lower H7 HB.size) Z7'.out (by decide) 0 _) (blk_set Z7'.out 0 _) (by decide) 1 _, ((below_then HB HB.size HB7).setCell (by simp) _).setCell (by simp) _⟩
  · have e0 : okG n E = false := by simpa using ok
    have e1 : extN n E = 0 := by simp [extN, e0]
    have e2 : extE n E = [] := by simp [extE, e0]
    have e3 : extC n E = 1 := by simp [extC, e0]
    have hread := read_any n E A c
    rw [e0] at hread
    rw [e1, e2, e3]
    have HR := Aside0.mk hread
    clear e0 e1 e2 e3 ok hread
    go_enter Tryd.func25, Tryd.ntmps25
    go_wp2_with (first
      | (go_at_call 47; go_must (refine (HR.out _ (Kd.C_below HC.out (((Below.refl _ _).alloc (Nat.le_refl _) _).alloc (by simp) _)) hl).mono ?_); rintro e w1 ⟨s, rfl, hs, HB1⟩)
      | (with_reducible refine gate_ (.store 55 (.tmp 4) (.tmp 19)) rfl ?_; go_must (refine store_row rfl 55 (.tmp 4) (.tmp 19) rfl w1.heap.size 55 (setsV f0) (setsV s) (by simp [Act.eval]) (by simp [Act.eval]) (blk_at rfl) rfl (by kernel_rfl) (setsV_one s) ?_)
         intro w2 hw2 hg2
         have hs2 : w.heap.size + 1 < w1.heap.size := by have := HB1.size; simp at this; omega
         have HBw : Below w.heap.size w w1 := below_then (((Below.refl _ _).alloc (Nat.le_refl _) _).alloc (by simp) _) (by simp; omega) HB1
         have HB2 : Below w.heap.size w w2 := (HBw.alloc HBw.size _).grown hg2 (by have := HBw.size; simp; omega) (fun q hq => by injection hq with hq; have := HBw.size; omega)
         have HZ2 := blk_grown (blk_alloc (blk_below (blk_at (w := w.alloc (.cells #[.int .i64 n, .slice A E.length c] 25)) (o := .cells #[.int .i64 0, .slice none 0 0] 25) (n := w.heap.size + 1) (by simp)) HB1) _) hg2 (fun e => by injection e with e; omega)
         have z0 : w2.cell? ⟨w.heap.size + 1, 0, none⟩ = some (.int .i64 0) := by simpa using blk_cell HZ2 0
         have z1 : w2.cell? ⟨w.heap.size + 1, 1, none⟩ = some (.slice none 0 0) := by simpa using blk_cell HZ2 1
         have zf0 := blk_frozen HZ2 0
         have zf1 := blk_frozen HZ2 1
         have HZ := Aside0.mk HZ2
         clear hw2 hg2 HZ2 HB1 HR HBw hs))
    have H8 := blk_set (blk_set HZ.out 0 (.int .i64 0)) 1 (.slice none 0 0)
    refine bodyPost_ret (results_ct rfl _ _ (w.heap.size + 1) 25 #[.int .i64 0, .slice none 0 0] (0, 0) _ (by simp) (by simpa using H8) Tryd.underlying25 rfl (by kernel_rfl)) rfl ?_
    exact ⟨_, rfl, Kd.R_nil _ _ _ _ _, (HB2.setCell (by simp) _).setCell (by simp) _⟩
end Go.Proofs.YtkkfoonaobehaaaDoor.ExtW
