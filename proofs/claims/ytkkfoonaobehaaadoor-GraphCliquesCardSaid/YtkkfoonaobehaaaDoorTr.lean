import Derived.Test.YtkkfoonaobehaaaDoorCl
namespace Go.Proofs.YtkkfoonaobehaaaDoor.Tr
open Go.RowKit Go.Proofs.YtkkfoonaobehaaaDoorW.PrintWords Go.Proofs.YtkkfoonaobehaaaDoor.Bits Go.Proofs.YtkkfoonaobehaaaDoor.Low Go.Proofs.YtkkfoonaobehaaaDoor.Sets Go.Proofs.YtkkfoonaobehaaaDoor.Search Go.Proofs.YtkkfoonaobehaaaDoor.Sort Go.Proofs.YtkkfoonaobehaaaDoor.Cl
open Go.Proofs.YtkkfoonaobehaaaDoor.Kit (store_row R_grownB grownBy_set)
set_option maxHeartbeats 800000
set_option maxRecDepth 100000
set_option linter.unusedVariables false
set_option linter.unusedSimpArgs false

def okAt (prev : Option Int) (x : Int) : Bool := decide (0 ≤ x) && decide (x < 64) && (match prev with | none => true | some p => decide (p < x))
def okRow : Option Int → List Int → Bool
  | _, [] => true
  | p, x :: l => okAt p x && okRow (some x) l
def okSet (xs : List Int) : Bool := decide (xs ≠ []) && okRow none xs
def bitsOf (a : Nat) (xs : List Int) : Nat := xs.foldl (fun a v => a ||| 2 ^ v.toNat) a
def okSets (L : List (List Int)) : Bool := L.all okSet
def consider (ls : List Nat) (inn : List Bool) (i : Nat) (b : Int × Int × Int) (k : Nat) : Int × Int × Int := if inn.getD k false = true ∧ b.2.2 < (pc (ls.getD i 0 &&& ls.getD k 0) : Int) then ((i : Int), (k : Int), (pc (ls.getD i 0 &&& ls.getD k 0) : Int)) else b
def rowTo (ls : List Nat) (inn : List Bool) (i : Nat) (b : Int × Int × Int) : Nat → Int × Int × Int
  | 0 => b
  | k + 1 => consider ls inn i (rowTo ls inn i b k) k
def scanTo (ls : List Nat) (inn : List Bool) (step : Nat) : Nat → Int × Int × Int
  | 0 => (0, -1, -1)
  | i + 1 => if inn.getD i false = true ∨ step = 0 then scanTo ls inn step i else rowTo ls inn i (scanTo ls inn step i) ls.length
def par (b : Int × Int × Int) : Int := if b.2.2 ≤ 0 then -1 else b.2.1
def stepT (ls : List Nat) (s : List Int × List Bool) (step : Nat) : List Int × List Bool :=
  (s.1.set (scanTo ls s.2 step ls.length).1.toNat (par (scanTo ls s.2 step ls.length)), s.2.set (scanTo ls s.2 step ls.length).1.toNat true)
def runT (ls : List Nat) : Nat → List Int × List Bool
  | 0 => (List.replicate ls.length 0, List.replicate ls.length false)
  | r + 1 => stepT ls (runT ls r) r
def treeL (L : List (List Int)) : List Int := if L.length ≤ 64 ∧ okSets L = true then (runT (L.map (bitsOf 0)) L.length).1 else []
def treeC (L : List (List Int)) : Int := if 64 < L.length then 2 else if okSets L then 0 else 1

theorem rowTo_bd (ls : List Nat) (inn : List Bool) (i n : Nat) (hi : i < n) (b : Int × Int × Int) (h : 0 ≤ b.1 ∧ b.1 < n ∧ -1 ≤ b.2.1 ∧ b.2.1 < n ∧ -1 ≤ b.2.2 ∧ b.2.2 ≤ 64) : ∀ k, k ≤ n → 0 ≤ (rowTo ls inn i b k).1 ∧ (rowTo ls inn i b k).1 < n ∧ -1 ≤ (rowTo ls inn i b k).2.1 ∧ (rowTo ls inn i b k).2.1 < n ∧ -1 ≤ (rowTo ls inn i b k).2.2 ∧ (rowTo ls inn i b k).2.2 ≤ 64
  | 0, _ => h
  | k + 1, hk => by
    have ih := rowTo_bd ls inn i n hi b h k (by omega)
    rw [rowTo]
    unfold consider
    have := pc_le (ls.getD i 0 &&& ls.getD k 0)
    split
    · simp only; omega
    · exact ih
theorem scanTo_bd (ls : List Nat) (inn : List Bool) (step n : Nat) (h0 : 0 < n) (hn : ls.length = n) : ∀ i, i ≤ n → 0 ≤ (scanTo ls inn step i).1 ∧ (scanTo ls inn step i).1 < n ∧ -1 ≤ (scanTo ls inn step i).2.1 ∧ (scanTo ls inn step i).2.1 < n ∧ -1 ≤ (scanTo ls inn step i).2.2 ∧ (scanTo ls inn step i).2.2 ≤ 64
  | 0, _ => by simp [scanTo]; omega
  | i + 1, hi => by
    have ih := scanTo_bd ls inn step n h0 hn i (by omega)
    rw [scanTo]
    split
    · exact ih
    · exact rowTo_bd ls inn i n (by omega) _ ih _ (by omega)
theorem runT_len (ls : List Nat) (r : Nat) : (runT ls r).1.length = ls.length ∧ (runT ls r).2.length = ls.length := by
  induction r with
  | zero => simp [runT]
  | succ r ih => simp [runT, stepT, ih.1, ih.2]

def rowI (xs : List Int) : Array Value := (xs.map fun x => Value.int .i64 x).toArray
def rowB (xs : List Bool) : Array Value := (xs.map fun x => Value.bool x).toArray
theorem rowI_at (xs : List Int) (i : Nat) (h : i < xs.length) : (rowI xs)[i]? = some (.int .i64 (xs.getD i 0)) := by simp [rowI, h]
theorem rowI_set (xs : List Int) (i : Nat) (x : Int) : (rowI xs).setIfInBounds i (.int .i64 x) = rowI (xs.set i x) := by
  unfold rowI
  rw [List.setIfInBounds_toArray, List.map_set]
theorem rowB_at (xs : List Bool) (i : Nat) (h : i < xs.length) : (rowB xs)[i]? = some (.bool (xs.getD i false)) := by simp [rowB, h]
theorem rowB_set (xs : List Bool) (i : Nat) (x : Bool) : (rowB xs).setIfInBounds i (.bool x) = rowB (xs.set i x) := by
  unfold rowB
  rw [List.setIfInBounds_toArray, List.map_set]
theorem rowI_zero (n : Nat) : madeCells #[Value.int .i64 0] n = rowI (List.replicate n 0) := by
  apply Array.ext'
  apply List.ext_getElem
  · simp [madeCells, rowI]
  · intro i h1 h2
    simp [madeCells, rowI, Nat.mod_one]
theorem rowB_zero (n : Nat) : madeCells #[Value.bool false] n = rowB (List.replicate n false) := by
  apply Array.ext'
  apply List.ext_getElem
  · simp [madeCells, rowB]
  · intro i h1 h2
    simp [madeCells, rowB, Nat.mod_one]
theorem R_of_blk {w : World} {g base : Nat} {xs : List Int} (h : w.heap[g]? = some (.cells (rowI xs) 3 (0, 0))) (hb : base ≤ g) (hn : xs.length ≤ 64) : Kd.R KI 3 w base (fun _ => True) (.slice (some ⟨g, 0, none⟩) xs.length xs.length) xs := by
  refine ⟨fun _ _ => trivial, (rowI xs).toList, ⟨by simp [rowI, show KI.sz = 1 from rfl], .inr ⟨g, xs.length, rowI xs, rfl, hb, h, Nat.le_refl _, by unfold maxLen; omega, ?_, ?_⟩⟩, ?_, ?_⟩
  · simp [rowI, show KI.sz = 1 from rfl]
  · rw [List.take_of_length_le (by simp [rowI, show KI.sz = 1 from rfl])]
  · simp [rowI, show KI.sz = 1 from rfl]
  · intro j p hj
    have := (Kd.reps_scalar (enc := fun x : Int => Value.int .i64 x) xs).2 j p hj
    simp only [encs, Nat.mul_one] at this
    simp only [rowI, List.toList_toArray, show KI.sz = 1 from rfl, Nat.mul_one]
    exact this
theorem elemC {w : World} {A : Option Addr} {L : List (List Int)} (h : KS.C w A L.length L) (i : Nat) (hi : i < L.length) : ∃ ad A2 c2, A = some ad ∧ w.cell? (ad.add i) = some (.slice A2 (L.getD i []).length c2) ∧ (L.getD i []).length ≤ c2 ∧ KI.C w A2 (L.getD i []).length (L.getD i []) := by
  obtain ⟨ad, cs, e, _, hK, hc⟩ := Kd.C_get h [] (i : Int) (by omega) (by omega)
  obtain ⟨A2, c2, rfl, hl, hC⟩ := hK
  simp only [Int.toNat_natCast, show KS.sz = 1 from rfl, Nat.mul_one] at hc hl hC
  exact ⟨ad, A2, c2, e, hc 0 _ rfl, hl, hC⟩
theorem okRow_step (p : Option Int) (xs : List Int) (q : Nat) (h : q < xs.length) : okRow p (xs.drop q) = (okAt p (xs.getD q 0) && okRow (some (xs.getD q 0)) (xs.drop (q + 1))) := by
  rw [List.drop_eq_getElem_cons h, okRow]
  simp [List.getD_eq_getElem?_getD, List.getElem?_eq_getElem h]
theorem okSets_step (L : List (List Int)) (i : Nat) (h : i < L.length) : okSets (L.drop i) = (okSet (L.getD i []) && okSets (L.drop (i + 1))) := by
  rw [okSets, List.drop_eq_getElem_cons h]
  simp only [okSets, List.all_cons, List.getD_eq_getElem?_getD, List.getElem?_eq_getElem h, Option.getD_some]
theorem bitsOf_step (xs : List Int) (q : Nat) (h : q < xs.length) : bitsOf 0 (xs.take (q + 1)) = bitsOf 0 (xs.take q) ||| 2 ^ (xs.getD q 0).toNat := by
  rw [List.take_succ_eq_append_getElem h, bitsOf, bitsOf, List.foldl_append]
  simp [List.getD_eq_getElem?_getD, List.getElem?_eq_getElem h]
def maskTo (L : List (List Int)) (n i : Nat) : List Nat := (L.take i).map (bitsOf 0) ++ List.replicate (n - i) 0
theorem maskTo_len (L : List (List Int)) (i : Nat) (h : i ≤ L.length) : (maskTo L L.length i).length = L.length := by simp [maskTo]; omega
theorem maskTo_get (L : List (List Int)) (i : Nat) (h : i ≤ L.length) (j : Nat) : (maskTo L L.length i)[j]? = if j < i then some (bitsOf 0 (L.getD j [])) else if j < L.length then some 0 else none := by
  unfold maskTo
  by_cases hj : j < i
  · rw [List.getElem?_append_left (by simp; omega), if_pos hj]
    simp [List.getElem?_eq_getElem (show j < L.length by omega), hj]
  · rw [List.getElem?_append_right (by simp; omega), if_neg hj]
    simp [List.getElem?_replicate]
    have : j - min i L.length < L.length - i ↔ j < L.length := by omega
    simp only [this]
theorem maskTo_set0 (L : List (List Int)) (i : Nat) (h : i < L.length) : (maskTo L L.length i).set i 0 = maskTo L L.length i := by
  apply List.ext_getElem?
  intro j
  rw [List.getElem?_set, maskTo_get L i (by omega), maskTo_len L i (by omega)]
  by_cases e : i = j
  · subst j; simp [h]
  · simp [e]
theorem maskTo_succ (L : List (List Int)) (i : Nat) (h : i < L.length) : (maskTo L L.length i).set i (bitsOf 0 (L.getD i [])) = maskTo L L.length (i + 1) := by
  apply List.ext_getElem?
  intro j
  rw [List.getElem?_set, maskTo_get L i (by omega), maskTo_get L (i + 1) (by omega), maskTo_len L i (by omega)]
  by_cases e : i = j
  · subst j; simp [h]
  · simp only [e, if_false]
    have : j < i + 1 ↔ j < i := by omega
    simp only [this]
theorem maskTo_all (L : List (List Int)) : maskTo L L.length L.length = L.map (bitsOf 0) := by simp [maskTo]
theorem maskTo_zero (L : List (List Int)) : maskTo L L.length 0 = List.replicate L.length 0 := by simp [maskTo]
theorem okAt_in (p : Option Int) (v : Nat) (hv : v < 64) : okAt p (v : Int) = (match p with | none => true | some p => decide (p < (v : Int))) := by
  have h1 : decide ((0 : Int) ≤ (v : Int)) = true := by simp
  have h2 : decide ((v : Int) < 64) = true := by simp; omega
  unfold okAt
  rw [h1, h2]
  rfl
theorem tree_any (L : List (List Int)) (A : Option Addr) (c : Nat) (w : World) (hL : KS.C w A L.length L) (hn : L.length ≤ 1000000) (hsh : ∀ i, i < L.length → (L.getD i []).length ≤ 1000000) :
    Calls Tryd.prog 22 #[.slice A L.length c] w fun e w' => ∃ v, e = .returned (.tuple #[v, .int .i64 (treeC L)]) ∧ Kd.R KI 3 w' w.heap.size (fun _ => True) v (treeL L) ∧ Below w.heap.size w w' := by
  have HC := Aside0.mk hL
  have HSh := Aside0.mk hsh
  clear hL hsh
  by_cases h64 : 64 < L.length
  · have e1 : treeL L = [] := by simp [treeL]; omega
    have e2 : treeC L = 2 := by simp [treeC, h64]
    have d1 : decide ((64 : Int) < (L.length : Int)) = true := by simp; omega
    rw [e1, e2]
    clear e1 e2
    go_enter Tryd.func22, Tryd.ntmps22
    go_wp2_with fail
    go_ret2
    exact ⟨_, rfl, Kd.R_nil _ _ _ _ _, Below.refl _ _⟩
  obtain ⟨G, hG⟩ : ∃ G, G = w.heap.size := ⟨_, rfl⟩
  have HGs := Aside0.mk hG
  have HBad : Aside0 (okSets L = false → treeC L = 1 ∧ treeL L = []) := ⟨fun h => by simp [treeC, treeL, h, h64]⟩
  have HGood : Aside0 (okSets L = true → treeC L = 0 ∧ treeL L = (runT (L.map (bitsOf 0)) L.length).1) := ⟨fun h => by simp [treeC, treeL, h, h64]⟩
  generalize treeC L = tc at *
  generalize treeL L = tl at *
  obtain ⟨n, hnn⟩ : ∃ n, n = L.length := ⟨_, rfl⟩
  have HN := Aside0.mk hnn
  rw [← hnn] at h64
  have hn64 : n ≤ 64 := by omega
  have d1 : decide ((64 : Int) < (n : Int)) = false := by simp; omega
  have hmk : ∀ W : World, (Instr.makeSlice 69 (.int .i64 (n : Int)) (.int .i64 (n : Int))).run Tryd.prog W = .ok (.slice (some ⟨W.heap.size, 0, none⟩) n n) (W.alloc (.cells (rowV (List.replicate n 0)) 53)) := by
    intro W
    rw [← rowV_zero]
    exact print_make (P := Tryd.prog) 69 53 .u64 8 Tryd.underlying69 i53 (by decide) n (by omega) W
  have hmk2 : ∀ W : World, (Instr.makeSlice 40 (.int .i64 (n : Int)) (.int .i64 (n : Int))).run Tryd.prog W = .ok (.slice (some ⟨W.heap.size, 0, none⟩) n n) (W.alloc (.cells (rowI (List.replicate n 0)) 3)) := by
    intro W
    rw [← rowI_zero]
    exact print_make (P := Tryd.prog) 40 3 .i64 8 Tryd.underlying40 i3 (by decide) n (by omega) W
  have hmk3 : ∀ W : World, (Instr.makeSlice 61 (.int .i64 (n : Int)) (.int .i64 (n : Int))).run Tryd.prog W = .ok (.slice (some ⟨W.heap.size, 0, none⟩) n n) (W.alloc (.cells (rowB (List.replicate n false)) 4)) := by
    intro W
    rw [← rowB_zero]
    exact print_make_of (P := Tryd.prog) 61 4 (.bool false) 1 Tryd.underlying61 (by kernel_rfl) rfl (by decide) n (by omega) W
  have HM2 := Aside0.mk hmk2
  have HM3 := Aside0.mk hmk3
  clear hmk2 hmk3
  rw [← hnn]
  clear hnn h64
  go_enter Tryd.func22, Tryd.ntmps22
  go_wp2_with fail
  rw [← hG]
  have hst : (w.alloc (.cells (rowV (List.replicate n 0)) 53)).heap[G]? = some (.cells (rowV (List.replicate n 0)) 53 (0, 0)) := blk_at hG
  have hbs : Below G w (w.alloc (.cells (rowV (List.replicate n 0)) 53)) := (Below.refl _ _).alloc (by omega) _
  have HST := Aside0.mk hst
  clear hst hG hmk d1
  go_loopw [5, 6, 7, 8, 26] (fun _ _ _ _ ii wr => ∃ i : Nat, ii = .int .i64 i ∧ i ≤ n ∧ Aside0 (okSets L = okSets (L.drop i)) ∧ Aside0 (∀ b ∈ maskTo L n i, b < 18446744073709551616) ∧ wr.heap[G]? = some (.cells (rowV (maskTo L n i)) 53 (0, 0)) ∧ Below G w wr) (fun _ _ _ _ ii _ => n - (intOf ii).toNat)
  case atStart => exact ⟨0, rfl, by omega, ⟨rfl⟩, ⟨by intro b hb; simp [maskTo] at hb; omega⟩, by simpa [maskTo] using HST.out, hbs⟩
  case round =>
    obtain ⟨i, rfl, hi, HK, HBd, hR, hB⟩ := hrel
    by_cases hlt : i < n
    · have hiL : i < L.length := by rw [← HN.out]; exact hlt
      have hBz : Below w.heap.size w wr := by rw [← HGs.out]; exact hB
      have HBz := Aside0.mk hBz
      obtain ⟨ad, A2, c2, ead, hx0, hlx, hCx⟩ := elemC HC.out i hiL
      have hx := pw_cell_below hBz hx0
      clear hx0
      have hOS := okSets_step L i hiL
      have hm0 := maskTo_set0 L i hiL
      have hm1 := maskTo_succ L i hiL
      have hml := maskTo_len L i (by omega)
      have hsl := HSh.out i hiL
      rw [← HN.out] at hm0 hm1 hml
      obtain ⟨xs, hxs⟩ : ∃ xs, xs = L.getD i [] := ⟨_, rfl⟩
      rw [← hxs] at hOS hm1 hx hlx hCx hsl
      have HOS := Aside0.mk hOS
      have HM0 := Aside0.mk hm0
      have HM1 := Aside0.mk hm1
      have HML := Aside0.mk hml
      have HCx := Aside0.mk hCx
      have HR := Aside0.mk hR
      clear hxs hOS hm0 hm1 hml hCx hR
      cases ead
      by_cases hz : xs.length = 0
      · have hbad : okSets L = false := by rw [HK.out, HOS.out]; simp [okSet, List.length_eq_zero_iff.1 hz]
        obtain ⟨b1, b2⟩ := HBad.out hbad
        have d2 : ((xs.length : Int) == 0) = true := by simp [hz]
        have d3 : ((xs.length : Int) != 0) = false := by simp [hz]
        have HB1 := Aside0.mk b1
        have HB2 := Aside0.mk b2
        clear b1 b2 hbad
        go_wp2_with fail
        go_ret2
        exact ⟨_, by rw [HB1.out]; rfl, by rw [HB2.out]; exact Kd.R_nil _ _ _ _ _, HBz.out⟩
      · have d2 : ((xs.length : Int) == 0) = false := by simp only [beq_eq_false_iff_ne, ne_eq]; omega
        have d3 : ((xs.length : Int) != 0) = true := by simp only [bne_iff_ne, ne_eq]; omega
        have hok0 : okSets L = (okRow none (xs.drop 0) && okSets (L.drop (i + 1))) := by rw [HK.out, HOS.out, okSet, decide_eq_true (show xs ≠ [] from fun h => hz (by rw [h]; rfl))]; rfl
        have HOK := Aside0.mk hok0
        have hne := hz
        clear hok0 hz
        go_wp2_with fail
        obtain ⟨wo, rfl⟩ : ∃ wo : World, wo = wr := ⟨_, rfl⟩
        go_loopw [7, 8, 36] (fun _ _ qq wr => ∃ q : Nat, qq = .int .i64 q ∧ q ≤ xs.length ∧ Aside0 (okSets L = (okRow (if q = 0 then none else some (xs.getD (q - 1) 0)) (xs.drop q) && okSets (L.drop (i + 1)))) ∧ bitsOf 0 (xs.take q) < 18446744073709551616 ∧ wr.heap[G]? = some (.cells (rowV ((maskTo L n i).set i (bitsOf 0 (xs.take q)))) 53 (0, 0)) ∧ Below G w wr) (fun _ _ qq _ => xs.length - (intOf qq).toNat)
        case atStart => exact ⟨0, rfl, by omega, ⟨HOK.out⟩, by simp [bitsOf], by simp only [List.take_zero, bitsOf, List.foldl_nil]; rw [HM0.out]; exact HR.out, hB⟩
        case round =>
          obtain ⟨q, rfl, hq, HQ, hbq, hRq, hBq⟩ := hrel
          by_cases hql : q < xs.length
          · have HBzq : Below w.heap.size w wr := by rw [← HGs.out]; exact hBq
            have HBzq := Aside0.mk HBzq
            have hCq := Kd.C_below HCx.out HBzq.out
            obtain ⟨ad2, ead2, hy⟩ := Kd.at_int hCq q (by omega) (by omega)
            have hrd : rd xs q = xs.getD q 0 := by simp [rd]
            rw [hrd] at hy
            simp only [Int.toNat_natCast] at hy
            cases ead2
            have HRS := Aside0.mk (okRow_step (if q = 0 then none else some (xs.getD (q - 1) 0)) xs q hql)
            have HBS := Aside0.mk (bitsOf_step xs q hql)
            have hHB0 : Aside0 (okAt (if q = 0 then none else some (xs.getD (q - 1) 0)) (xs.getD q 0) = false → okSets L = false) := ⟨fun h => by rw [HQ.out, HRS.out, h]; simp⟩
            have hpv : 0 < q → wr.cell? (ad2.add (q - 1)) = some (.int .i64 (xs.getD (q - 1) 0)) := by
              intro h0
              obtain ⟨ad3, ead3, hy3⟩ := Kd.at_int hCq (q - 1 : Nat) (by omega) (by omega)
              cases ead3
              have hrd3 : rd xs (q - 1 : Nat) = xs.getD (q - 1) 0 := by simp [rd]
              rw [hrd3] at hy3
              simpa using hy3
            have HPV := Aside0.mk hpv
            have HRq := Aside0.mk hRq
            obtain ⟨x, hxe⟩ : ∃ x, x = xs.getD q 0 := ⟨_, rfl⟩
            have HXE : Aside0 (xs.getD q 0 = x) := ⟨hxe.symm⟩
            rw [← hxe] at hy HRS HBS hHB0
            clear hxe hrd hpv hRq hCq
            have HB0 := hHB0.out
            clear hHB0
            by_cases q1 : x < 0
            · have d4 : decide (x < 0) = true := by simpa using q1
              have hbad := HB0 (by simp [okAt]; omega)
              obtain ⟨b1, b2⟩ := HBad.out hbad
              have HB1 := Aside0.mk b1
              have HB2 := Aside0.mk b2
              clear b1 b2 hbad HB0
              go_wp2_with fail
              go_ret2
              exact ⟨_, by rw [HB1.out]; rfl, by rw [HB2.out]; exact Kd.R_nil _ _ _ _ _, HBzq.out⟩
            · have d4 : decide (x < 0) = false := by simpa using q1
              by_cases q2 : 64 ≤ x
              · have d5 : decide ((64 : Int) ≤ x) = true := by simpa using q2
                have hbad := HB0 (by simp [okAt]; omega)
                obtain ⟨b1, b2⟩ := HBad.out hbad
                have HB1 := Aside0.mk b1
                have HB2 := Aside0.mk b2
                clear b1 b2 hbad HB0
                go_wp2_with fail
                go_ret2
                exact ⟨_, by rw [HB1.out]; rfl, by rw [HB2.out]; exact Kd.R_nil _ _ _ _ _, HBzq.out⟩
              · obtain ⟨v, rfl⟩ := Int.eq_ofNat_of_zero_le (show 0 ≤ x by omega)
                have d5 : decide ((64 : Int) ≤ (v : Int)) = false := by simpa using q2
                have d5n : decide (64 ≤ v) = false := by simp; omega
                have hv : v < 64 := by omega
                rw [Int.toNat_natCast] at HBS
                obtain ⟨hpw, hpl⟩ := pow_u v hv
                obtain ⟨acc, hacce⟩ : ∃ acc, acc = bitsOf 0 (xs.take q) := ⟨_, rfl⟩
                rw [← hacce] at hbq HBS HRq
                have hor : bits .or .u64 (acc : Int) ((2 : Int) ^ v) = ((acc ||| 2 ^ v : Nat) : Int) := by rw [show ((2 : Int) ^ v) = ((2 ^ v : Nat) : Int) by simp]; exact bits_or_u64_nat _ _ hbq hpl
                have hacc : acc ||| 2 ^ v < 18446744073709551616 := Nat.or_lt_two_pow (n := 64) hbq hpl
                have hcell : wr.cell? ⟨G, i, none⟩ = some (.int .u64 acc) := by
                  rw [blk_cell HRq.out i, rowV_at _ i (by simp [HML.out]; exact hlt)]
                  simp [List.getD_eq_getElem?_getD, HML.out, hlt]
                have hfr := blk_frozen HRq.out i
                clear hacce
                have hrow : okAt (if q = 0 then none else some (xs.getD (q - 1) 0)) (v : Int) = (match (if q = 0 then none else some (xs.getD (q - 1) 0) : Option Int) with | none => true | some p => decide (p < (v : Int))) := by
                  exact okAt_in _ v hv
                by_cases q3 : q = 0
                · have d6 : decide ((0 : Int) < (q : Int)) = false := by simp; omega
                  have d7 : decide (0 < q) = false := by simp; omega
                  have hoka : okAt (if q = 0 then none else some (xs.getD (q - 1) 0)) (v : Int) = true := by rw [hrow, if_pos q3]
                  clear hrow q3
                  have HK1 : Aside0 (okSets L = (okRow (if q + 1 = 0 then none else some (xs.getD (q + 1 - 1) 0)) (xs.drop (q + 1)) && okSets (L.drop (i + 1)))) := ⟨by rw [HQ.out, HRS.out, hoka, if_neg (Nat.succ_ne_zero q), Nat.add_sub_cancel, HXE.out, Bool.true_and]⟩
                  clear HB0 hoka
                  go_wp2_with fail
                  refine ⟨⟨q + 1, by go_num, by omega, HK1, by rw [HBS.out]; exact hacc, ?_, hBq.setCell (by simp) _⟩, by simp [intOf]; omega⟩
                  have := blk_set HRq.out i (.int .u64 ((acc ||| 2 ^ v : Nat) : Int))
                  rw [rowV_set, List.set_set] at this
                  rw [HBS.out]
                  exact this
                · have d6 : decide ((0 : Int) < (q : Int)) = true := by simp; omega
                  have d7 : decide (0 < q) = true := by simp; omega
                  have hpv := HPV.out (by omega)
                  rw [if_neg q3] at hrow HB0 HRS HQ
                  obtain ⟨pv, hpe⟩ : ∃ pv, pv = xs.getD (q - 1) 0 := ⟨_, rfl⟩
                  rw [← hpe] at hrow HB0 HRS HQ hpv
                  clear hpe HPV
                  simp only at hrow
                  have hw : IntKind.i64.wrap ((q : Int) - 1) = ((q - 1 : Nat) : Int) := by rw [IntWalk.i64_in _ (by omega)]; omega
                  have hw0 : (0 : Int) ≤ ((q - 1 : Nat) : Int) := by omega
                  have hw1 : ((q - 1 : Nat) : Int) < (xs.length : Int) := by omega
                  by_cases q4 : (v : Int) ≤ pv
                  · have d8 : decide ((v : Int) ≤ pv) = true := by simpa using q4
                    have hoka : okAt (some pv) (v : Int) = false := by rw [hrow]; simp; omega
                    clear hrow q4
                    have hbad := HB0 hoka
                    obtain ⟨b1, b2⟩ := HBad.out hbad
                    have HB1 := Aside0.mk b1
                    have HB2 := Aside0.mk b2
                    clear b1 b2 hbad HB0
                    go_wp2_with fail
                    go_ret2
                    exact ⟨_, by rw [HB1.out]; rfl, by rw [HB2.out]; exact Kd.R_nil _ _ _ _ _, HBzq.out⟩
                  · have d8 : decide ((v : Int) ≤ pv) = false := by simpa using q4
                    have hoka : okAt (some pv) (v : Int) = true := by rw [hrow]; simp; omega
                    clear hrow q4
                    have HK1 : Aside0 (okSets L = (okRow (if q + 1 = 0 then none else some (xs.getD (q + 1 - 1) 0)) (xs.drop (q + 1)) && okSets (L.drop (i + 1)))) := ⟨by rw [HQ.out, HRS.out, hoka, if_neg (Nat.succ_ne_zero q), Nat.add_sub_cancel, HXE.out, Bool.true_and]⟩
                    clear HB0 hoka
                    go_wp2_with fail
                    refine ⟨⟨q + 1, by go_num, by omega, HK1, by rw [HBS.out]; exact hacc, ?_, hBq.setCell (by simp) _⟩, by simp [intOf]; omega⟩
                    have := blk_set HRq.out i (.int .u64 ((acc ||| 2 ^ v : Nat) : Int))
                    rw [rowV_set, List.set_set] at this
                    rw [HBS.out]
                    exact this
          · obtain rfl : q = xs.length := by omega
            go_wp2_with fail
            refine ⟨⟨i + 1, by go_num, by omega, ⟨?_⟩, ⟨?_⟩, ?_, hBq⟩, by simp [intOf]; omega⟩
            · rw [HQ.out]; simp [okRow]
            · intro b hb
              rw [← HM1.out] at hb
              rcases List.mem_or_eq_of_mem_set hb with hb | hb
              · exact HBd.out b hb
              · rw [hb]
                rw [List.take_length] at hbq
                exact hbq
            · rw [List.take_length, HM1.out] at hRq; exact hRq
    · obtain rfl : i = n := by omega
      have hok : okSets L = true := by rw [HK.out, HN.out, List.drop_length]; rfl
      obtain ⟨b1, b2⟩ := HGood.out hok
      obtain ⟨ls, hls⟩ : ∃ ls, ls = L.map (bitsOf 0) := ⟨_, rfl⟩
      have hmt : maskTo L i i = ls := by rw [hls]; have := maskTo_all L; rw [← HN.out] at this; exact this
      have hll : ls.length = i := by rw [hls, List.length_map, ← HN.out]
      rw [hmt] at hR HBd
      rw [← hls, ← HN.out] at b2
      have hlb : ∀ k, k < i → ls.getD k 0 < 18446744073709551616 := by
        intro k hk
        refine HBd.out _ ?_
        rw [List.getD_eq_getElem?_getD, List.getElem?_eq_getElem (by omega), Option.getD_some]
        exact List.getElem_mem _
      have HB1 := Aside0.mk b1
      have HB2 := Aside0.mk b2
      have HLL := Aside0.mk hll
      have HLB := Aside0.mk hlb
      have HR := Aside0.mk hR
      have hmk2 := HM2.out
      have hmk3 := HM3.out
      clear b1 b2 hll hlb hmt hls hok hR HK HBd HBad HGood HM2 HM3
      obtain ⟨w5, rfl⟩ : ∃ w5 : World, w5 = wr := ⟨_, rfl⟩
      go_wp2_with fail
      obtain ⟨B, hBe⟩ : ∃ B, B = w5.heap.size := ⟨_, rfl⟩
      rw [← hBe]
      have HBe := Aside0.mk hBe
      have hG5 : G < w5.heap.size := blk_lt HR.out
      have hS1 : ((w5.alloc (.cells (rowI (List.replicate i 0)) 3)).alloc (.cells (rowB (List.replicate i false)) 4)).heap[B]? = some (.cells (rowI (List.replicate i 0)) 3 (0, 0)) := blk_alloc (blk_at hBe) _
      have hS2 : ((w5.alloc (.cells (rowI (List.replicate i 0)) 3)).alloc (.cells (rowB (List.replicate i false)) 4)).heap[B + 1]? = some (.cells (rowB (List.replicate i false)) 4 (0, 0)) := blk_at (by simp [hBe])
      have hS3 : Below B w5 ((w5.alloc (.cells (rowI (List.replicate i 0)) 3)).alloc (.cells (rowB (List.replicate i false)) 4)) := ((Below.refl _ _).alloc (by omega) _).alloc (by simp; omega) _
      have HS1 := Aside0.mk hS1
      have HS2 := Aside0.mk hS2
      clear hS1 hS2 hBe hmk2 hmk3
      go_loopw [11, 12, 13, 14, 15, 16, 17, 79] (fun _ _ _ _ _ _ _ rr wr => ∃ r : Nat, rr = .int .i64 r ∧ r ≤ i ∧ wr.heap[B]? = some (.cells (rowI (runT ls r).1) 3 (0, 0)) ∧ wr.heap[B + 1]? = some (.cells (rowB (runT ls r).2) 4 (0, 0)) ∧ Below B w5 wr) (fun _ _ _ _ _ _ _ rr _ => i - (intOf rr).toNat)
      case atStart => exact ⟨0, rfl, by omega, by rw [HS1.out, runT, HLL.out], by rw [HS2.out, runT, HLL.out], hS3⟩
      case round =>
        obtain ⟨r, rfl, hr, hR1, hR2, hB6⟩ := hrel
        have HR1 := Aside0.mk hR1
        have HR2 := Aside0.mk hR2
        clear hR1 hR2
        by_cases hri : r < i
        · have hlen := runT_len ls r
          have hrun : runT ls (r + 1) = stepT ls (runT ls r) r := rfl
          rw [HLL.out] at hlen
          have HRUN := Aside0.mk hrun
          have HLEN := Aside0.mk hlen
          clear hrun hlen
          generalize runT ls r = st at *
          obtain ⟨tr, inn⟩ := st
          have hltr := HLEN.out.1
          have hlin := HLEN.out.2
          simp only at HR1 HR2 hltr hlin
          have HLTR := Aside0.mk hltr
          have HLIN := Aside0.mk hlin
          clear hltr hlin HLEN
          have HBe6 := Aside0.mk (show Below w5.heap.size w5 wr by rw [← HBe.out]; exact hB6)
          go_wp2_with fail
          obtain ⟨w6, rfl⟩ : ∃ w6 : World, w6 = wr := ⟨_, rfl⟩
          have HG6 := Aside0.mk (blk_below HR.out HBe6.out)
          go_loopw [12, 13, 14, 15, 16, 17, 84] (fun x12 x13 x14 _ _ _ jj wr => ∃ j : Nat, jj = .int .i64 j ∧ j ≤ i ∧ x12 = .int .i64 (scanTo ls inn r j).1 ∧ x13 = .int .i64 (scanTo ls inn r j).2.1 ∧ x14 = .int .i64 (scanTo ls inn r j).2.2 ∧ Below w6.heap.size w6 wr) (fun _ _ _ _ _ _ jj _ => i - (intOf jj).toNat)
          case atStart => exact ⟨0, rfl, by omega, rfl, rfl, rfl, Below.refl _ _⟩
          case round =>
            obtain ⟨j, rfl, hj, rfl, rfl, rfl, hB7⟩ := hrel
            by_cases hji : j < i
            · have hcI : wr.cell? ⟨B + 1, j, none⟩ = some (.bool (inn.getD j false)) := by rw [blk_cell (blk_below HR2.out hB7) j, rowB_at _ j (by rw [HLIN.out]; exact hji)]
              have hsc : scanTo ls inn r (j + 1) = if inn.getD j false = true ∨ r = 0 then scanTo ls inn r j else rowTo ls inn j (scanTo ls inn r j) ls.length := rfl
              have hbd := scanTo_bd ls inn r i (by omega) HLL.out j (by omega)
              obtain ⟨t, ht⟩ : ∃ t, t = inn.getD j false := ⟨_, rfl⟩
              rw [← ht] at hcI hsc
              rw [HLL.out] at hsc
              have HSC := Aside0.mk hsc
              clear ht hsc
              generalize scanTo ls inn r j = b at *
              by_cases ht : t = true
              · subst ht
                go_wp2_with fail
                have h := HSC.out
                rw [if_pos (.inl rfl)] at h
                exact ⟨⟨j + 1, by go_num, by omega, by rw [h], by rw [h], by rw [h], hB7⟩, by simp [intOf]; omega⟩
              · have ht' : t = false := by simpa using ht
                subst ht'
                clear ht
                by_cases hr0 : r = 0
                · have d2 : ((r : Int) == 0) = true := by simp [hr0]
                  have HR0 := Aside0.mk hr0
                  clear hr0
                  go_wp2_with fail
                  have h := HSC.out
                  rw [if_pos (.inr HR0.out)] at h
                  exact ⟨⟨j + 1, by go_num, by omega, by rw [h], by rw [h], by rw [h], hB7⟩, by simp [intOf]; omega⟩
                · have d2 : ((r : Int) == 0) = false := by simp only [beq_eq_false_iff_ne, ne_eq]; omega
                  have h := HSC.out
                  rw [if_neg (by simp; exact hr0)] at h
                  have HSC' := Aside0.mk h
                  clear h HSC hr0
                  have HBD := Aside0.mk hbd
                  clear hbd
                  go_wp2_with fail
                  clear hcI
                  go_loopw [12, 13, 14, 16, 17, 97] (fun x12 x13 x14 _ _ kk wr => ∃ k : Nat, kk = .int .i64 k ∧ k ≤ i ∧ x12 = .int .i64 (rowTo ls inn j b k).1 ∧ x13 = .int .i64 (rowTo ls inn j b k).2.1 ∧ x14 = .int .i64 (rowTo ls inn j b k).2.2 ∧ Below w6.heap.size w6 wr) (fun _ _ _ _ _ kk _ => i - (intOf kk).toNat)
                  case atStart => exact ⟨0, rfl, by omega, rfl, rfl, rfl, hB7⟩
                  case round =>
                    obtain ⟨k, rfl, hk, rfl, rfl, rfl, hB8⟩ := hrel
                    by_cases hki : k < i
                    · have hcK : wr.cell? ⟨B + 1, k, none⟩ = some (.bool (inn.getD k false)) := by rw [blk_cell (blk_below HR2.out hB8) k, rowB_at _ k (by rw [HLIN.out]; exact hki)]
                      have hl1 : wr.cell? ⟨G, j, none⟩ = some (.int .u64 (ls.getD j 0 : Nat)) := by rw [blk_cell (blk_below HG6.out hB8) j, rowV_at _ j (by rw [HLL.out]; exact hji)]
                      have hl2 : wr.cell? ⟨G, k, none⟩ = some (.int .u64 (ls.getD k 0 : Nat)) := by rw [blk_cell (blk_below HG6.out hB8) k, rowV_at _ k (by rw [HLL.out]; exact hki)]
                      have hrw : rowTo ls inn j b (k + 1) = consider ls inn j (rowTo ls inn j b k) k := rfl
                      have hbd := rowTo_bd ls inn j i hji b HBD.out k (by omega)
                      have hu1 := HLB.out j hji
                      have hu2 := HLB.out k hki
                      have hand := and_u _ _ hu1 hu2
                      have hu : ls.getD j 0 &&& ls.getD k 0 < 18446744073709551616 := Nat.lt_of_le_of_lt Nat.and_le_left hu1
                      rw [consider] at hrw
                      generalize ls.getD j 0 &&& ls.getD k 0 = u at *
                      have HRW := Aside0.mk hrw
                      clear hrw
                      generalize rowTo ls inn j b k = b2 at *
                      generalize ls.getD j 0 = l1 at *
                      generalize ls.getD k 0 = l2 at *
                      obtain ⟨t, ht⟩ : ∃ t, t = inn.getD k false := ⟨_, rfl⟩
                      rw [← ht] at hcK HRW
                      clear ht
                      go_wp2_with fail
                      go_quiet ((go_at_call 55; exact Calls.quiet_of_same ((ones_any _ hu _).mono fun _ _ h => ⟨h.1, h.2.symm⟩)))
                      cases t with
                      | false =>
                        go_wp2_with fail
                        have h := HRW.out
                        rw [if_neg (by simp)] at h
                        exact ⟨⟨k + 1, by go_num, by omega, by rw [h], by rw [h], by rw [h], pw_below_drewN hB8 _⟩, by simp [intOf]; omega⟩
                      | true =>
                        by_cases hgt : b2.2.2 < (pc u : Int)
                        · have d5 : decide (b2.2.2 < (pc u : Int)) = true := by simpa using hgt
                          have h := HRW.out
                          rw [if_pos ⟨rfl, hgt⟩] at h
                          have HRW' := Aside0.mk h
                          clear h HRW hgt
                          go_wp2_with fail
                          have h := HRW'.out
                          exact ⟨⟨k + 1, by go_num, by omega, by rw [h], by rw [h], by rw [h], pw_below_drewN hB8 _⟩, by simp [intOf]; omega⟩
                        · have d5 : decide (b2.2.2 < (pc u : Int)) = false := by simpa using hgt
                          have h := HRW.out
                          rw [if_neg (fun h => hgt h.2)] at h
                          have HRW' := Aside0.mk h
                          clear h HRW hgt
                          go_wp2_with fail
                          have h := HRW'.out
                          exact ⟨⟨k + 1, by go_num, by omega, by rw [h], by rw [h], by rw [h], pw_below_drewN hB8 _⟩, by simp [intOf]; omega⟩
                    · obtain rfl : k = i := by omega
                      go_wp2_with fail
                      have h := HSC'.out
                      exact ⟨⟨j + 1, by go_num, by omega, by rw [h], by rw [h], by rw [h], hB8⟩, by simp [intOf]; omega⟩
            · obtain rfl : j = i := by omega
              have hbd := scanTo_bd ls inn r j (by omega) HLL.out j (Nat.le_refl _)
              have hpar : par (scanTo ls inn r j) = if (scanTo ls inn r j).2.2 ≤ 0 then -1 else (scanTo ls inn r j).2.1 := rfl
              have hst : runT ls (r + 1) = (tr.set (scanTo ls inn r j).1.toNat (par (scanTo ls inn r j)), inn.set (scanTo ls inn r j).1.toNat true) := by rw [HRUN.out, stepT, HLL.out]
              have HST5 := Aside0.mk hst
              have HPAR := Aside0.mk hpar
              clear hst hpar HRUN
              generalize scanTo ls inn r j = b at *
              obtain ⟨bi, bp, bc⟩ := b
              simp only at hbd HPAR HST5
              obtain ⟨hb1, hb2, hb3, hb4, hb5, hb6⟩ := hbd
              obtain ⟨bi, rfl⟩ := Int.eq_ofNat_of_zero_le hb1
              have hbi : bi < j := by omega
              rw [Int.toNat_natCast] at HST5
              have hg7 : wr.heap[B]? = some (.cells (rowI tr) 3 (0, 0)) := blk_below HR1.out hB7
              have hg8 : wr.heap[B + 1]? = some (.cells (rowB inn) 4 (0, 0)) := blk_below HR2.out hB7
              have hc1 : wr.cell? ⟨B, bi, none⟩ = some (.int .i64 (tr.getD bi 0)) := by rw [blk_cell hg7 bi, rowI_at _ bi (by rw [HLTR.out]; exact hbi)]
              have hc2 : wr.cell? ⟨B + 1, bi, none⟩ = some (.bool (inn.getD bi false)) := by rw [blk_cell hg8 bi, rowB_at _ bi (by rw [HLIN.out]; exact hbi)]
              have hf1 := blk_frozen hg7 bi
              have hf2 := blk_frozen hg8 bi
              have HG7 := Aside0.mk hg7
              have HG8 := Aside0.mk hg8
              have hB10 : Below B w5 wr := below_then hB6 (by have := HBe6.out.size; rw [HBe.out]; exact this) hB7
              clear hg7 hg8
              by_cases hle : bc ≤ 0
              · have d5 : decide (bc ≤ 0) = true := by simpa using hle
                have h := HPAR.out
                rw [if_pos hle] at h
                have HP := Aside0.mk h
                clear h HPAR hle
                go_wp2_with fail
                refine ⟨⟨r + 1, by go_num, by omega, ?_, ?_, (hB10.setCell (Nat.le_refl _) _).setCell (Nat.le_succ _) _⟩, by simp [intOf]; omega⟩
                · rw [HST5.out, HP.out, ← rowI_set]
                  exact blk_far (blk_set HG7.out bi _) (by simp) _
                · rw [HST5.out, ← rowB_set]
                  exact blk_set (blk_far HG8.out (by simp) _) bi _
              · have d5 : decide (bc ≤ 0) = false := by simpa using hle
                have h := HPAR.out
                rw [if_neg hle] at h
                have HP := Aside0.mk h
                clear h HPAR hle
                go_wp2_with fail
                refine ⟨⟨r + 1, by go_num, by omega, ?_, ?_, (hB10.setCell (Nat.le_refl _) _).setCell (Nat.le_succ _) _⟩, by simp [intOf]; omega⟩
                · rw [HST5.out, HP.out, ← rowI_set]
                  exact blk_far (blk_set HG7.out bi _) (by simp) _
                · rw [HST5.out, ← rowB_set]
                  exact blk_set (blk_far HG8.out (by simp) _) bi _
        · obtain rfl : r = i := by omega
          have hrl := (runT_len ls r).1
          rw [HLL.out] at hrl
          have HRL := Aside0.mk hrl
          clear hrl
          go_wp2_with fail
          go_ret2
          refine ⟨_, by rw [HB1.out]; rfl, ?_, ?_⟩
          · rw [HB2.out]
            have h := R_of_blk (base := w.heap.size) HR1.out (by rw [← HGs.out, HBe.out]; omega) (by rw [HRL.out]; omega)
            rw [HRL.out] at h
            exact h
          · exact below_then (show Below w.heap.size w w5 by rw [← HGs.out]; exact hB) (by rw [← HGs.out]; omega) (by rw [← HBe.out]; exact hB6)
end Go.Proofs.YtkkfoonaobehaaaDoor.Tr
