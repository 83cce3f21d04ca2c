import Derived.Test.YtkkfoonaobehaaaDoorComp
import Derived.Test.YtkkfoonaobehaaaDoorRAdj
import Derived.Test.YtkkfoonaobehaaaDoorCompP
import Derived.Deep.LoopGhost
import Derived.IntWalk
namespace Go.Proofs.YtkkfoonaobehaaaDoor.Parts
open Go.RowKit Go.Proofs.YtkkfoonaobehaaaDoorW.PrintWords Go.Proofs.YtkkfoonaobehaaaDoor.Bits Go.Proofs.YtkkfoonaobehaaaDoor.Low Go.Proofs.YtkkfoonaobehaaaDoor.Sets Go.Proofs.YtkkfoonaobehaaaDoor.Read Go.Proofs.YtkkfoonaobehaaaDoor.Search Go.Proofs.YtkkfoonaobehaaaDoor.Earl Go.Proofs.YtkkfoonaobehaaaDoor.Sort Go.Proofs.YtkkfoonaobehaaaDoor.Tr Go.Proofs.YtkkfoonaobehaaaDoor.Ref Go.Proofs.YtkkfoonaobehaaaDoor.Comp Go.Proofs.YtkkfoonaobehaaaDoor.GrP
open Go.Proofs.YtkkfoonaobehaaaDoor.Cl (i40)
set_option maxHeartbeats 1600000
set_option maxRecDepth 100000
set_option linter.unusedVariables false
set_option linter.unusedSimpArgs false
/-- What a search from i has found: u; st: what is still to be looked at. -/
structure DInv (n : Nat) (f : Nat → Nat) (i u : Nat) (st : List Nat) : Prop where
  pre : Pre f i u
  inU : ∀ x ∈ st, u.testBit x = true
  shut : ∀ x, u.testBit x = true → x ∉ st → ∀ y, (f x).testBit y = true → u.testBit y = true
/-- The same while the neighbors of a are looked at, those below j done. -/
structure EInv (n : Nat) (f : Nat → Nat) (i a j u : Nat) (st : List Nat) : Prop where
  pre : Pre f i u
  inU : ∀ x ∈ st, u.testBit x = true
  inA : u.testBit a = true
  shut : ∀ x, u.testBit x = true → x ∉ st → x ≠ a → ∀ y, (f x).testBit y = true → u.testBit y = true
  done : ∀ y, y < j → (f a).testBit y = true → u.testBit y = true
theorem pre_lt {n : Nat} {f : Nat → Nat} (g : Gr n f) {i u : Nat} (hi : i < n) (h : Pre f i u) {j : Nat} (hj : u.testBit j = true) : j < n :=
  h.2.2 (fun x => x < n) hi (fun a b _ hb => (g.lt a b hb).2) j hj
theorem dstart {n : Nat} {f : Nat → Nat} (hn : n ≤ 64) {i : Nat} (hi : i < n) : DInv n f i (0 ||| 2 ^ i) [i] := by
  rw [Nat.zero_or]
  refine ⟨pre_start f i (by omega), fun x hx => ?_, fun x hx hs => ?_⟩
  · rw [List.mem_singleton.1 hx]; simp
  · rw [bit_pow] at hx
    exact absurd (by rw [hx]; simp) hs
theorem dpop {n : Nat} {f : Nat → Nat} {i u : Nat} {st : List Nat} (h : DInv n f i u st) (hp : 0 < st.length) : EInv n f i (st.getD (st.length - 1) 0) 0 u (st.take (st.length - 1)) := by
  have hlt : st.length - 1 < st.length := by omega
  have e : st = st.take (st.length - 1) ++ [st.getD (st.length - 1) 0] := by
    have := List.take_succ_eq_append_getElem hlt
    rw [show st.length - 1 + 1 = st.length by omega, List.take_length] at this
    conv => lhs; rw [this]
    simp [List.getD_eq_getElem?_getD, hlt]
  have hin : ∀ x, x ∈ st ↔ x ∈ st.take (st.length - 1) ∨ x = st.getD (st.length - 1) 0 := by
    intro x
    conv => lhs; rw [e]
    simp
  exact ⟨h.pre, fun x hx => h.inU x ((hin x).2 (.inl hx)), h.inU _ ((hin _).2 (.inr rfl)), fun x hx hs hne => h.shut x hx (fun q => by
    rcases (hin x).1 q with q | q
    · exact hs q
    · exact hne q), fun y hy => by omega⟩
theorem estep_no {n : Nat} {f : Nat → Nat} {i a j u : Nat} {st : List Nat} (h : EInv n f i a j u st) (hno : (f a).testBit j = false ∨ u.testBit j = true) : EInv n f i a (j + 1) u st := by
  refine ⟨h.pre, h.inU, h.inA, h.shut, fun y hy hb => ?_⟩
  by_cases e : y = j
  · subst e
    rcases hno with q | q
    · rw [q] at hb; cases hb
    · exact q
  · exact h.done y (by omega) hb
theorem estep_yes {n : Nat} {f : Nat → Nat} {i a j u : Nat} {st : List Nat} (hj : j < 64) (h : EInv n f i a j u st) (hb : (f a).testBit j = true) : EInv n f i a (j + 1) (u ||| 2 ^ j) (st ++ [j]) := by
  have hbit : ∀ x, (u ||| 2 ^ j).testBit x = true ↔ u.testBit x = true ∨ x = j := by
    intro x
    rw [Nat.testBit_or, Bool.or_eq_true, bit_pow]
  refine ⟨⟨Nat.or_lt_two_pow (n := 64) h.pre.1 (pow_u j hj).2, (hbit i).2 (.inl h.pre.2.1), fun V hV hs x hx => ?_⟩, fun x hx => ?_, (hbit a).2 (.inl h.inA), fun x hx hs hne y hy => ?_, fun y hy hyb => ?_⟩
  · rcases (hbit x).1 hx with q | q
    · exact h.pre.2.2 V hV hs x q
    · rw [q]; exact hs a j (h.pre.2.2 V hV hs a h.inA) hb
  · rcases List.mem_append.1 hx with q | q
    · exact (hbit x).2 (.inl (h.inU x q))
    · exact (hbit x).2 (.inr (List.mem_singleton.1 q))
  · rcases (hbit x).1 hx with q | q
    · exact (hbit y).2 (.inl (h.shut x q (fun z => hs (by simp [z])) hne y hy))
    · exact absurd (by simp [q]) hs
  · by_cases e : y = j
    · exact (hbit y).2 (.inr e)
    · exact (hbit y).2 (.inl (h.done y (by omega) hyb))
theorem eend {n : Nat} {f : Nat → Nat} (g : Gr n f) {i a u : Nat} {st : List Nat} (h : EInv n f i a n u st) : DInv n f i u st := by
  refine ⟨h.pre, h.inU, fun x hx hs y hy => ?_⟩
  by_cases e : x = a
  · subst e; exact h.done y (g.lt x y hy).2 hy
  · exact h.shut x hx hs e y hy
theorem dend {n : Nat} {f : Nat → Nat} (hf : Bd f) {i u : Nat} (hi : i < 64) (h : DInv n f i u []) : u = cl f i := IsClo.uniq ⟨h.pre, fun x y hx hy => h.shut x hx (by simp) y hy⟩ (cl_is hf hi)
theorem pc_or (u j : Nat) (hj : j < 64) (h : u.testBit j = false) : pc u < pc (u ||| 2 ^ j) ∧ pc (u ||| 2 ^ j) ≤ 64 := by
  refine ⟨?_, pc_le _⟩
  refine (CompP.filter_len_le (List.range 64) ?_).2 ⟨j, by simpa using hj, by rw [Nat.testBit_or]; simp, h⟩
  intro x _ hx
  rw [Nat.testBit_or, hx]; rfl
def lTo (u k : Nat) : List Int := ((List.range k).filter u.testBit).map Int.ofNat
theorem lTo_step (u k : Nat) : lTo u (k + 1) = lTo u k ++ if u.testBit k = true then [(k : Int)] else [] := by
  unfold lTo
  rw [List.range_succ, List.filter_append, List.map_append]
  by_cases h : u.testBit k = true <;> simp [h]
theorem lTo_len (u k : Nat) : (lTo u k).length ≤ k := by
  have := List.length_filter_le u.testBit (List.range k)
  simpa [lTo] using this
theorem lTo_full {n u : Nat} (hn : n ≤ 64) (h : ∀ j, u.testBit j = true → j < n) : lTo u n = memI u := by
  rw [lTo, memI, mem, filter_upto u.testBit n hn (fun j hj => by
    apply Classical.byContradiction
    intro q
    have := h j (by simpa using q)
    omega)]
def seenTo (S u : Nat) : Nat → Nat
  | 0 => S
  | k + 1 => if u.testBit k = true then seenTo S u k ||| 2 ^ k else seenTo S u k
theorem seenTo_bit (S u j : Nat) : ∀ k, (seenTo S u k).testBit j = true ↔ S.testBit j = true ∨ (j < k ∧ u.testBit j = true)
  | 0 => by simp [seenTo]
  | k + 1 => by
    rw [seenTo]
    by_cases h : u.testBit k = true
    · rw [if_pos h, Nat.testBit_or, Bool.or_eq_true, seenTo_bit S u j k, bit_pow]
      constructor
      · rintro ((q | q) | q)
        · exact .inl q
        · exact .inr ⟨by omega, q.2⟩
        · subst q; exact .inr ⟨by omega, h⟩
      · rintro (q | q)
        · exact .inl (.inl q)
        · by_cases e : j = k
          · exact .inr e
          · exact .inl (.inr ⟨by omega, q.2⟩)
    · rw [if_neg h, seenTo_bit S u j k]
      constructor
      · rintro (q | q)
        · exact .inl q
        · exact .inr ⟨by omega, q.2⟩
      · rintro (q | q)
        · exact .inl q
        · by_cases e : j = k
          · subst e; exact absurd q.2 h
          · exact .inr ⟨by omega, q.2⟩
theorem seenTo_full {S u n : Nat} (h : ∀ j, u.testBit j = true → j < n) : seenTo S u n = S ||| u := by
  apply Nat.eq_of_testBit_eq
  intro j
  have h1 := seenTo_bit S u j n
  have h2 : (S ||| u).testBit j = true ↔ S.testBit j = true ∨ u.testBit j = true := by rw [Nat.testBit_or, Bool.or_eq_true]
  have h3 : (seenTo S u n).testBit j = true ↔ (S ||| u).testBit j = true := by
    rw [h1, h2]
    constructor
    · rintro (q | q)
      · exact .inl q
      · exact .inr q.2
    · rintro (q | q)
      · exact .inl q
      · exact .inr ⟨h j q, q⟩
  cases e1 : (seenTo S u n).testBit j <;> cases e2 : (S ||| u).testBit j <;> simp_all
theorem rd_nats (st : List Nat) (q : Nat) : rd (natsI st) q = (st.getD q 0 : Nat) := by
  simp only [rd, natsI, Int.toNat_natCast, List.getD_eq_getElem?_getD, List.getElem?_map]
  cases st[q]? <;> rfl
theorem nats_len (st : List Nat) : (natsI st).length = st.length := by simp [natsI]
theorem parts_any (f : Nat → Nat) (n g cc : Nat) (w : World) (hn : n ≤ 64) (gr : Gr n f) (hM : Mat w g n f) :
    Calls Tryd.prog 57 #[.slice (some ⟨g, 0, none⟩) n cc] w fun e w' => ∃ v, e = .returned v ∧ KS.R 40 w' w.heap.size (fun _ => True) v (compTo f n).2 ∧ Below w.heap.size w w' := by
  have hbd := CompP.gr_bd hn gr
  have HM := Aside0.mk hM
  have hglt := blk_lt hM.1
  have hmk : ∀ W : World, (Instr.makeSlice 61 (.int .i64 (n : Int)) (.int .i64 (n : Int))).run Tryd.prog W = .ok (.slice (some ⟨W.heap.size, 0, none⟩) n n) (W.alloc (.cells (rowB (bitRow 0 n)) 4)) := by
    intro W
    rw [bitRow_zero, ← rowB_zero]
    exact print_make_of (P := Tryd.prog) 61 4 (.bool false) 1 Tryd.underlying61 (by kernel_rfl) rfl (by decide) n (by omega) W
  have HMK := Aside0.mk hmk
  clear hM
  go_enter Tryd.func57, Tryd.ntmps57
  go_wp2_with fail
  obtain ⟨gs, hgs⟩ : ∃ gs, gs = w.heap.size := ⟨_, rfl⟩
  have HST := Aside0.mk (blk_new w (.cells (rowB (bitRow 0 n)) 4))
  have HGS := Aside0.mk hgs
  rw [← hgs] at HST ⊢
  clear hgs hmk
  go_loopw [3, 5, 6, 7, 8, 9, 10, 11] (fun o i _ _ _ _ _ _ wr => ∃ k : Nat, i = .int .i64 k ∧ k ≤ n ∧ wr.heap[gs]? = some (.cells (rowB (bitRow (compTo f k).1 n)) 4 (0, 0)) ∧ KS.R 40 wr gs (fun _ => True) o (compTo f k).2 ∧ Below gs w wr) (fun _ i _ _ _ _ _ _ _ => n - (intOf i).toNat)
  case atStart => exact ⟨0, rfl, by omega, HST.out, Kd.R_nil _ _ _ _ _, by rw [HGS.out]; exact (Below.refl _ _).alloc (Nat.le_refl _) _⟩
  case round =>
    obtain ⟨k, rfl, hk, hR, HO, HB⟩ := hrel
    have hR := Aside0.mk hR
    have hszw : gs ≤ wr.heap.size := by have := blk_lt hR.out; omega
    by_cases hlt : k < n
    · obtain ⟨hd, hol⟩ := compTo_lt hbd k (by omega)
      have HCR : Aside0 (compTo f (k + 1) = if (compTo f k).1.testBit k then compTo f k else ((compTo f k).1 ||| cl f k, (compTo f k).2 ++ [memI (cl f k)])) := ⟨rfl⟩
      have hcs : wr.cell? ⟨gs, k, none⟩ = some (.bool ((compTo f k).1.testBit k)) := (blk_cell hR.out k).trans (by rw [rowB_at _ k (by rw [bitRow_len]; exact hlt), bitRow_get _ _ _ hlt])
      generalize compTo f k = q at *
      obtain ⟨S, out⟩ := q
      simp only at hd hol HO hR hcs HCR
      by_cases ht : S.testBit k = true
      · rw [ht] at hcs
        have hcr := HCR.out
        rw [if_pos ht] at hcr
        have HCR2 := Aside0.mk hcr
        clear hcr HCR ht
        go_wp2_with fail
        exact ⟨⟨k + 1, by go_num, by omega, by rw [HCR2.out]; exact hR.out, by rw [HCR2.out]; exact HO, HB⟩, by simp [intOf]; omega⟩
      · have ht' : S.testBit k = false := by simpa using ht
        rw [ht'] at hcs
        have hcr := HCR.out
        rw [if_neg ht] at hcr
        have HCR2 := Aside0.mk hcr
        have hmk := HMK.out
        have hrow : (rowB (bitRow 0 n))[k]? = some (.bool false) := by
          rw [rowB_at _ k (by rw [bitRow_len]; exact hlt), bitRow_get _ _ _ hlt]; simp
        clear hcr HCR ht ht'
        go_wp2_with fail
        obtain ⟨wo, rfl⟩ : ∃ wo : World, wo = wr := ⟨_, rfl⟩
        have hd0 := dstart (f := f) hn hlt
        have hst0 : (rowB (bitRow 0 n)).setIfInBounds k (.bool true) = rowB (bitRow (0 ||| 2 ^ k) n) := by rw [rowB_set, bitRow_set]
        rw [hst0]
        have hG0 := blk_alloc (blk_new wo (.cells (rowB (bitRow (0 ||| 2 ^ k) n)) 4)) (.cells #[.int .i64 (k : Int)] 3)
        have hS0 : (((wo.alloc (.cells (rowB (bitRow (0 ||| 2 ^ k) n)) 4)).alloc (.cells #[.int .i64 (k : Int)] 3))).heap[wo.heap.size + 1]? = some (.cells (rowI [(k : Int)]) 3 (0, 0)) := blk_at (by simp)
        have HS0 : Aside0 (KI.R 3 (((wo.alloc (.cells (rowB (bitRow (0 ||| 2 ^ k) n)) 4)).alloc (.cells #[.int .i64 (k : Int)] 3))) (wo.heap.size + 1) (fun _ => True) (.slice (some ⟨wo.heap.size + 1, 0, none⟩) 1 1) (natsI [k])) := ⟨R_of_blk hS0 (Nat.le_refl _) (by show 1 ≤ 64; decide)⟩
        have HG0 := Aside0.mk hG0
        have HD0 := Aside0.mk hd0
        have HBs1 : Below wo.heap.size wo (wo.alloc (.cells (rowB (bitRow (0 ||| 2 ^ k) n)) 4)) := (Below.refl _ _).alloc (Nat.le_refl _) _
        have HBst := HBs1.alloc HBs1.size (.cells #[.int .i64 (k : Int)] 3)
        clear hd0 hst0 hG0 hS0 hmk hrow hcs
        go_loopg [7, 8, 9] (2 * (64 - pc (0 ||| 2 ^ k)) + 1) (fun gk v _ _ wr2 => ∃ (u : Nat) (st : List Nat), Aside0 (DInv n f k u st) ∧ gk = 2 * (64 - pc u) + st.length ∧ gk ≤ 200 ∧ wr2.heap[wo.heap.size]? = some (.cells (rowB (bitRow u n)) 4 (0, 0)) ∧ KI.R 3 wr2 (wo.heap.size + 1) (fun _ => True) v (natsI st) ∧ Below wo.heap.size wo wr2)
        case atStart => exact ⟨_, [k], HD0, rfl, by omega, HG0.out, HS0.out, HBst⟩
        case round =>
          obtain ⟨u, st, HD, hgk, hgk2, hU, HO7, HB7⟩ := hrel
          have hU := Aside0.mk hU
          have hbelow := Aside0.mk (below_then HB hszw HB7)
          obtain ⟨A7, c7, rfl, hc7, hC7⟩ := Kd.R_reads HO7
          have hnl : (natsI st).length = st.length := by simp [natsI]
          have hpc := pc_le u
          obtain ⟨L, hL⟩ : ∃ L, L = st.length := ⟨_, rfl⟩
          rw [hnl, ← hL] at hC7 hc7 HO7 ⊢
          have HL := Aside0.mk hL
          rw [← hL] at hgk
          have HGK := Aside0.mk hgk
          have hL64 : L ≤ 200 := by omega
          clear hL hnl hgk
          by_cases h0 : 0 < L
          · have hw : IntKind.i64.wrap ((L : Int) - 1) = ((L - 1 : Nat) : Int) := by rw [IntWalk.i64_in _ (by omega)]; omega
            have hw0 : (0 : Int) ≤ ((L - 1 : Nat) : Int) := by omega
            have hw1 : ((L - 1 : Nat) : Int) < (L : Int) := by omega
            have hw2 : ((L - 1 : Nat) : Int).toNat = L - 1 := by simp
            have hw3 : ((L - 1 : Nat) : Int) ≤ (c7 : Int) := by omega
            obtain ⟨ad7, ead7, hy7⟩ := Kd.at_int hC7 (L - 1 : Nat) (by omega) (by omega)
            have hrd : rd (natsI st) (L - 1 : Nat) = (st.getD (L - 1) 0 : Nat) := rd_nats st (L - 1)
            rw [hrd] at hy7
            simp only [Int.toNat_natCast] at hy7
            cases ead7
            have HE := Aside0.mk (dpop HD.out (by rw [← HL.out]; exact h0))
            rw [← HL.out] at HE
            have HTK := Aside0.mk (Kd.R_take HO7 (m := L - 1) (by simp [natsI, ← HL.out]))
            generalize st.getD (L - 1) 0 = a at *
            clear hrd
            have han := pre_lt gr hlt HE.out.pre HE.out.inA
            go_wp2_with fail
            clear hw hw0 hw1 hw2 hw3 hy7 hC7
            obtain ⟨wp, rfl⟩ : ∃ wp : World, wp = wr := ⟨_, rfl⟩
            go_loopw [7, 9] (fun v j wr => ∃ (q u' : Nat) (st' : List Nat), j = .int .i64 q ∧ q ≤ n ∧ Aside0 (EInv n f k a q u' st') ∧ 2 * (64 - pc u') + st'.length < gk ∧ wr.heap[wo.heap.size]? = some (.cells (rowB (bitRow u' n)) 4 (0, 0)) ∧ KI.R 3 wr (wo.heap.size + 1) (fun _ => True) v (natsI st') ∧ Below wo.heap.size wo wr) (fun _ j _ => n - (intOf j).toNat)
            case atStart => exact ⟨0, u, _, rfl, by omega, HE, by rw [List.length_take, ← HL.out, HGK.out]; omega, hU.out, by have := HTK.out; simpa [natsI, List.map_take] using this, HB7⟩
            case round =>
              obtain ⟨q, u', st', rfl, hq, HEq, hm, hU2, HO8, HB8⟩ := hrel
              have hU2 := Aside0.mk hU2
              have hpc' := pc_le u'
              obtain ⟨A8, c8, rfl, hc8, hC8⟩ := Kd.R_reads HO8
              rw [nats_len] at hc8 hC8 HO8 ⊢
              clear hC8
              by_cases hqn : q < n
              · have HMr := Mat_below HM.out (by have := below_then HB hszw HB8; rw [HGS.out] at this; exact this)
                have hcr : wr.cell? ⟨g, a, none⟩ = some (.slice (some ⟨g + 1 + a, 0, none⟩) n n) := (blk_cell HMr.1 a).trans (by rw [rowS_at _ _ _ _ han, if_pos han])
                have hcb : wr.cell? ⟨g + 1 + a, q, none⟩ = some (.bool ((f a).testBit q)) := (blk_cell (HMr.2 a han) q).trans (by rw [rowB_at _ q (by rw [bitRow_len]; exact hqn), bitRow_get _ _ _ hqn])
                have hin : wr.cell? ⟨wo.heap.size, q, none⟩ = some (.bool (u'.testBit q)) := (blk_cell hU2.out q).trans (by rw [rowB_at _ q (by rw [bitRow_len]; exact hqn), bitRow_get _ _ _ hqn])
                have hfz := blk_frozen hU2.out q
                clear HMr
                cases hb1 : (f a).testBit q with
                | false =>
                  rw [hb1] at hcb
                  have HE2 := Aside0.mk (estep_no HEq.out (.inl hb1))
                  clear hb1
                  go_wp2_with fail
                  exact ⟨⟨q + 1, u', st', by go_num, by omega, HE2, hm, hU2.out, HO8, HB8⟩, by simp [intOf]; omega⟩
                | true =>
                  cases hb2 : u'.testBit q with
                  | true =>
                    rw [hb1] at hcb
                    rw [hb2] at hin
                    have HE2 := Aside0.mk (estep_no HEq.out (.inr hb2))
                    clear hb1 hb2
                    go_wp2_with fail
                    exact ⟨⟨q + 1, u', st', by go_num, by omega, HE2, hm, hU2.out, HO8, HB8⟩, by simp [intOf]; omega⟩
                  | false =>
                    rw [hb1] at hcb
                    rw [hb2] at hin
                    have HE2 := Aside0.mk (estep_yes (by omega) HEq.out hb1)
                    obtain ⟨hp1, hp2⟩ := pc_or u' q (by omega) hb2
                    have HU3 : Aside0 ((wr.setCell ⟨wo.heap.size, q, none⟩ (.bool true)).heap[wo.heap.size]? = some (.cells (rowB (bitRow (u' ||| 2 ^ q) n)) 4 (0, 0))) := ⟨by
                      have := blk_set hU2.out q (.bool true)
                      rw [rowB_set, bitRow_set] at this
                      exact this⟩
                    have HO9 : KI.R 3 (wr.setCell ⟨wo.heap.size, q, none⟩ (.bool true)) (wo.heap.size + 1) (fun _ => True) (.slice A8 st'.length c8) (natsI st') := Kd.R_set HO8 hU2.out (by decide) q _
                    have hsz8 : wo.heap.size + 1 ≤ (wr.setCell ⟨wo.heap.size, q, none⟩ (.bool true)).heap.size := by have := blk_lt hU2.out; simp; omega
                    clear hb1 hb2
                    go_wp2_with (at_builtin; go_must (refine Kd.R_append KI (wo.heap.size + 1) (by rfl) (.tmp 70) (.tmp 72) 40 3 (.int .i64 0) 8 (by rfl) Tryd.underlying40 i3 rfl (by decide) (by decide) _ (natsI st') (q : Int) [.int .i64 q] (fun _ => True) (fun _ => False) (by rfl) (by simp [Act.eval]) rfl (fun _ h => h.elim) (fun _ _ => trivial) HO9 (Below.refl _ _) hsz8 (by rw [nats_len]; omega) ?_); intro v1 w3 HO3 HB3 hgr _)
                    obtain ⟨inn, how⟩ := Kd.R_own HO9
                    exact ⟨⟨q + 1, u' ||| 2 ^ q, st' ++ [q], by go_num, by omega, HE2, by simp; omega, blk_grown HU3.out hgr (fun e => by have := own_base how _ e.symm; omega), by simpa [natsI] using HO3, (HB8.setCell (by simp) _).grown hgr (by have := HB8.size; simp; omega) (fun k hk => by have := own_base how k hk; omega)⟩, by simp [intOf]; omega⟩
              · obtain rfl : q = n := by omega
                have HDe := Aside0.mk (eend gr HEq.out)
                go_wp2_with fail
                go_roundg (2 * (64 - pc u') + st'.length)
                case measure => exact hm
                case rel => exact ⟨u', st', HDe, rfl, by omega, hU2.out, HO8, HB8⟩
          · obtain rfl : L = 0 := by omega
            have hst : st = [] := List.length_eq_zero_iff.1 HL.out.symm
            have hucl : u = cl f k := dend hbd (by omega) (by have := HD.out; rw [hst] at this; exact this)
            have hubd : ∀ j, u.testBit j = true → j < n := fun j hj => pre_lt gr hlt HD.out.pre hj
            have HLF := Aside0.mk (lTo_full hn hubd)
            have HSF := Aside0.mk (seenTo_full (S := S) hubd)
            rw [← hucl] at HCR2
            have hS4 := blk_below hR.out HB7
            have HO4 : KS.R 40 wr gs (fun k => k < wr.heap.size) u3 out := Kd.R_mono (Kd.R_bound (Kd.R_below HO HB7)) (fun k hk => hk.2.2.1)
            have hgslt := blk_lt hR.out
            have hne4 : wo.heap.size ≠ gs := by omega
            have hwole : wo.heap.size < wr.heap.size := blk_lt hU.out
            clear hst hucl hubd HD HL HGK h0 hC7 hpc
            go_wp2_with fail
            obtain ⟨w4, rfl⟩ : ∃ w4 : World, w4 = wr := ⟨_, rfl⟩
            have HS4 := Aside0.mk hS4
            clear hS4
            go_loopw [10, 11] (fun l q wr => ∃ q' : Nat, q = .int .i64 q' ∧ q' ≤ n ∧ wr.heap[gs]? = some (.cells (rowB (bitRow (seenTo S u q') n)) 4 (0, 0)) ∧ KS.R 40 wr gs (fun k => k < w4.heap.size) u3 out ∧ KI.R 3 wr w4.heap.size (fun _ => True) l (lTo u q') ∧ wr.heap[wo.heap.size]? = some (.cells (rowB (bitRow u n)) 4 (0, 0)) ∧ Below gs w wr ∧ w4.heap.size ≤ wr.heap.size) (fun _ q _ => n - (intOf q).toNat)
            case atStart => exact ⟨0, rfl, by omega, HS4.out, HO4, Kd.R_nil _ _ _ _ _, hU.out, hbelow.out, Nat.le_refl _⟩
            case round =>
              obtain ⟨q, rfl, hq, hSq, HOq, HLq, hUq, hBq, hszq⟩ := hrel
              have hSq := Aside0.mk hSq
              have hUq := Aside0.mk hUq
              have hll := lTo_len u q
              by_cases hqn : q < n
              · have hin : wr.cell? ⟨wo.heap.size, q, none⟩ = some (.bool (u.testBit q)) := (blk_cell hUq.out q).trans (by rw [rowB_at _ q (by rw [bitRow_len]; exact hqn), bitRow_get _ _ _ hqn])
                have hsc : ∃ y, wr.cell? ⟨gs, q, none⟩ = some (.bool y) := ⟨_, (blk_cell hSq.out q).trans (by rw [rowB_at _ q (by rw [bitRow_len]; exact hqn)])⟩
                obtain ⟨y, hsc⟩ := hsc
                have hfz := blk_frozen hSq.out q
                have HLS := Aside0.mk (lTo_step u q)
                have HSS : Aside0 (seenTo S u (q + 1) = if u.testBit q = true then seenTo S u q ||| 2 ^ q else seenTo S u q) := ⟨rfl⟩
                cases hb2 : u.testBit q with
                | false =>
                  rw [hb2] at hin HLS HSS
                  have HLS2 : Aside0 (lTo u (q + 1) = lTo u q) := ⟨by rw [HLS.out]; simp⟩
                  have HSS2 : Aside0 (seenTo S u (q + 1) = seenTo S u q) := ⟨by rw [HSS.out]; simp⟩
                  clear HLS HSS hb2
                  go_wp2_with fail
                  exact ⟨⟨q + 1, by go_num, by omega, by rw [HSS2.out]; exact hSq.out, HOq, by rw [HLS2.out]; exact HLq, hUq.out, hBq, hszq⟩, by simp [intOf]; omega⟩
                | true =>
                  rw [hb2] at hin HLS HSS
                  have HLS2 : Aside0 (lTo u (q + 1) = lTo u q ++ [(q : Int)]) := ⟨by rw [HLS.out]; simp⟩
                  have HSS2 : Aside0 (seenTo S u (q + 1) = seenTo S u q ||| 2 ^ q) := ⟨by rw [HSS.out]; simp⟩
                  have HB5 : Aside0 ((wr.setCell ⟨gs, q, none⟩ (.bool true)).heap[gs]? = some (.cells (rowB (bitRow (seenTo S u q ||| 2 ^ q) n)) 4 (0, 0))) := ⟨by
                    have := blk_set hSq.out q (.bool true)
                    rw [rowB_set, bitRow_set] at this
                    exact this⟩
                  have HB6 := Aside0.mk (blk_far hUq.out (p := ⟨gs, q, none⟩) (by simpa using hne4) (.bool true))
                  have HO5 : KS.R 40 (wr.setCell ⟨gs, q, none⟩ (.bool true)) gs (fun k => k < w4.heap.size) u3 out := Kd.R_set HOq hSq.out (by decide) q _
                  have HL5 : KI.R 3 (wr.setCell ⟨gs, q, none⟩ (.bool true)) w4.heap.size (fun _ => True) u10 (lTo u q) := Kd.R_set HLq hSq.out (by decide) q _
                  have hsz5 : w4.heap.size ≤ (wr.setCell ⟨gs, q, none⟩ (.bool true)).heap.size := by simpa using hszq
                  clear HLS HSS hb2
                  go_wp2_with (at_builtin; go_must (refine Kd.R_append KI w4.heap.size (by rfl) (.tmp 87) (.tmp 89) 40 3 (.int .i64 0) 8 (by rfl) Tryd.underlying40 i3 rfl (by decide) (by decide) _ (lTo u q) (q : Int) [.int .i64 q] (fun _ => True) (fun _ => False) (by rfl) (by simp [Act.eval]) rfl (fun _ h => h.elim) (fun _ _ => trivial) HL5 (Below.refl _ _) hsz5 (by omega) ?_); intro v1 w6 HO6 HBx hgr _)
                  obtain ⟨inn, how⟩ := Kd.R_own HL5
                  have hnew : ∀ k, u10.ownBlock = some k → w4.heap.size ≤ k := fun k hk => own_base how k hk
                  exact ⟨⟨q + 1, by go_num, by omega, by rw [HSS2.out]; exact blk_grown HB5.out hgr (fun e => by have := hnew _ e.symm; omega), Kd.R_grown HO5 hgr (fun k hk e => by have := hnew k e.symm; omega), by rw [HLS2.out]; exact HO6, blk_grown HB6.out hgr (fun e => by have := hnew _ e.symm; omega), (hBq.setCell (by simp) _).grown hgr (by simp; omega) (fun k hk => by have := hnew k hk; omega), by have := hgr.size; simp at this; omega⟩, by simp [intOf]; omega⟩
              · obtain rfl : q = n := by omega
                rw [HLF.out] at HLq
                rw [HSF.out] at hSq
                obtain ⟨A9, c9, rfl, hc9, hC9⟩ := Kd.R_reads HLq
                have hm64 := memI_len u
                obtain ⟨inn3, how3⟩ := Kd.R_own HOq
                have HM9 : KI.R 3 wr gs (fun k => True ∧ some k ≠ u3.ownBlock) (.slice A9 (memI u).length c9) (memI u) := Kd.R_lower (Kd.R_mono (Kd.R_bound HLq) (fun k hk => ⟨trivial, fun e => by
                  have h1 := HOq.1 k e.symm
                  have h2 := hk.2.1
                  omega⟩)) (by omega)
                have HO8 : KS.R 40 wr gs (fun _ => True) u3 out := Kd.R_mono HOq (fun _ _ => trivial)
                have hne8 := Aside0.mk (Kd.R_ne HOq hSq.out (by decide))
                clear hC9
                go_wp2_with (at_builtin; go_must (refine Kd.R_append KS gs (by rfl) (.tmp 91) (.tmp 93) 34 40 (.slice none 0 0) 24 (by rfl) Tryd.underlying34 i40 rfl (by decide) (by decide) _ out (memI u) [.slice A9 (memI u).length c9] (fun _ => True) _ (by rfl) (by rfl) ⟨_, rfl, HM9⟩ (fun k hk => ⟨trivial, hk.2⟩) (fun _ _ => trivial) HO8 hBq (by omega) (by omega) ?_); intro v1 w11 HO11 HB11 hgr _)
                exact ⟨⟨k + 1, by go_num, by omega, by rw [HCR2.out]; exact blk_grown hSq.out hgr hne8.out, by rw [HCR2.out]; exact HO11, HB11⟩, by simp [intOf]; omega⟩
    · obtain rfl : k = n := by omega
      go_wp2_with fail
      go_ret
      exact ⟨_, rfl, by rw [HGS.out] at HO; exact HO, by rw [HGS.out] at HB; exact HB⟩
end Go.Proofs.YtkkfoonaobehaaaDoor.Parts
