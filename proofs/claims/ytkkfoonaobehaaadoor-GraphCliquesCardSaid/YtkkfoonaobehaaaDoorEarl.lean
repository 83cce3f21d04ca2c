import Derived.Test.YtkkfoonaobehaaaDoorSearch
namespace Go.Proofs.YtkkfoonaobehaaaDoor.Earl
open Go.RowKit Go.Proofs.YtkkfoonaobehaaaDoorW.PrintWords Go.Proofs.YtkkfoonaobehaaaDoor.Bits Go.Proofs.YtkkfoonaobehaaaDoor.Low Go.Proofs.YtkkfoonaobehaaaDoor.Sets Go.Proofs.YtkkfoonaobehaaaDoor.Kit Go.Proofs.YtkkfoonaobehaaaDoor.Read Go.Proofs.YtkkfoonaobehaaaDoor.Search
set_option maxHeartbeats 4000000
set_option maxRecDepth 100000

/-- The elements of a that are not in b. -/
def andn (a b : Nat) : Nat := a ^^^ (a &&& b)
theorem andn_bit (a b i : Nat) : (andn a b).testBit i = (a.testBit i && !b.testBit i) := by
  unfold andn
  rw [Nat.testBit_xor, Nat.testBit_and]
  cases a.testBit i <;> cases b.testBit i <;> rfl
theorem andn_lt {a : Nat} (b : Nat) (h : a < 18446744073709551616) : andn a b < 18446744073709551616 := Nat.xor_lt_two_pow (n := 64) h (Nat.lt_of_le_of_lt Nat.and_le_left h)
theorem andNot_u (a b : Nat) (ha : a < 18446744073709551616) (hb : b < 18446744073709551616) : bits .andNot .u64 (a : Int) (b : Int) = ((andn a b : Nat) : Int) := by
  have h1 : (BitVec.ofInt 64 (a : Int)).toNat = a := by
    rw [BitVec.ofInt_natCast, BitVec.toNat_ofNat]; exact Nat.mod_eq_of_lt (by omega)
  have h2 : (BitVec.ofInt 64 (b : Int)).toNat = b := by
    rw [BitVec.ofInt_natCast, BitVec.toNat_ofNat]; exact Nat.mod_eq_of_lt (by omega)
  show IntKind.u64.wrap ((BitVec.ofInt 64 (a : Int) &&& ~~~ BitVec.ofInt 64 (b : Int)).toNat : Int) = _
  have e : (BitVec.ofInt 64 (a : Int) &&& ~~~ BitVec.ofInt 64 (b : Int)).toNat = andn a b := by
    apply Nat.eq_of_testBit_eq
    intro i
    rw [andn_bit, BitVec.testBit_toNat, BitVec.getLsbD_and, BitVec.getLsbD_not, ← BitVec.testBit_toNat, ← BitVec.testBit_toNat, h1, h2]
    by_cases hi : i < 64
    · simp [hi]
    · have : a.testBit i = false := Nat.testBit_lt_two_pow (Nat.lt_of_lt_of_le (show a < 2 ^ 64 from ha) (Nat.pow_le_pow_right (by decide) (by omega)))
      simp [this]
  rw [e, wrap_u _ (andn_lt b ha)]

def nbr (f : Nat → Nat) (k : Nat) : Nat := f k ||| 2 ^ k
theorem nbr_lt {f : Nat → Nat} (h : Bd f) {k : Nat} (hk : k < 64) : nbr f k < 18446744073709551616 := Nat.or_lt_two_pow (n := 64) (h k hk) (pow_u k hk).2
/-- Every element of b is adjacent to, or the same as, every other. -/
def bad (f : Nat → Nat) (b k : Nat) : Nat := andn b (nbr f k)
def clq (f : Nat → Nat) (b : Nat) : Bool := (mem b).all fun k => bad f b k == 0
def earl (f : Nat → Nat) : List Nat → Nat → List Nat → Option (List Nat)
  | [], _, out => some out
  | v :: l, done, out => if clq f (f v &&& done) then earl f l (done ||| 2 ^ v) (out ++ [f v &&& done]) else none
abbrev KU : Kd Int := Kd.int .u64
def natsI (l : List Nat) : List Int := l.map Int.ofNat

theorem earl_any (f : Nat → Nat) (hf : Bd f) (order : List Nat) (ho : ∀ v ∈ order, v < 64) (A : Option Addr) (c : Nat) (w : World) (hT : T w) (hC : KI.C w A (natsI order).length (natsI order)) (hl : order.length ≤ 64) :
    Calls Tryd.prog 49 #[.agg (setsV f), .slice A (natsI order).length c] w fun e w' => ∃ v, e = .returned (.tuple #[v, .bool (earl f order 0 []).isSome]) ∧ Kd.R KU 53 w' w.heap.size (fun _ => True) v (natsI ((earl f order 0 []).getD [])) ∧ Below w.heap.size w w' := by
  have HT := Aside0.mk hT
  have HC := Aside0.mk hC
  have hlen : (natsI order).length = order.length := by simp [natsI]
  clear hT hC
  obtain ⟨R, hR⟩ : ∃ R, R = earl f order 0 [] := ⟨_, rfl⟩
  have HR := Aside0.mk hR
  rw [← hR]
  clear hR
  rw [hlen]
  rw [hlen] at HC
  go_enter Tryd.func49, Tryd.ntmps49
  go_wp2_with fail
  go_loopw [6, 7, 9, 10, 12, 15] (fun o d _ _ _ i wr => ∃ (k x : Nat) (out : List Nat), i = .int .i64 k ∧ k ≤ order.length ∧ d = .int .u64 x ∧ x < 18446744073709551616 ∧ out.length = k ∧ Aside0 (R = earl f (order.drop k) x out) ∧ wr.heap[w.heap.size]? = some (.cells (setsV f) 55 (0, 0)) ∧ Kd.R KU 53 wr w.heap.size (fun _ => True) o (natsI out) ∧ Below w.heap.size w wr) (fun _ _ _ _ _ i _ => order.length - (intOf i).toNat)
  case atStart => exact ⟨0, 0, [], rfl, by omega, rfl, by decide, rfl, by simpa using HR, blk_at rfl, Kd.R_nil _ _ _ _ _, (Below.refl _ _).alloc (Nat.le_refl _) _⟩
  case round =>
    obtain ⟨k, x, out, rfl, hk, rfl, hx, hol, HE, HS, HO, HB⟩ := hrel
    have HS' := Aside0.mk HS
    clear HS
    by_cases hlt : k < order.length
    · have hv := ho (order[k]) (List.getElem_mem hlt)
      have HE' := HE.out
      rw [List.drop_eq_getElem_cons hlt, earl] at HE'
      obtain ⟨ad, ead, hc⟩ := Kd.at_int (Kd.C_below HC.out HB) k (by omega) (by omega)
      have hrd : rd (natsI order) k = (order[k] : Int) := by simp [rd, natsI, List.getElem?_eq_getElem hlt]
      rw [hrd] at hc
      simp only [Int.toNat_natCast] at hc
      cases ead
      generalize order[k] = v at *
      have hcell : wr.cell? ⟨w.heap.size, v, none⟩ = some (.int .u64 (f v)) := by rw [blk_cell HS'.out, setsV_at f v hv]
      have hfv := hf v hv
      have hand : bits .and .u64 (f v : Int) (x : Int) = ((f v &&& x : Nat) : Int) := and_u _ _ hfv hx
      have hb : f v &&& x < 18446744073709551616 := Nat.lt_of_le_of_lt Nat.and_le_left hfv
      generalize f v &&& x = b at *
      have HEE := Aside0.mk HE'
      clear HE' HE hrd
      have hml := memI_len b
      go_wp2_with (go_at_call 50; go_must (refine (members_any b hb _ (T_below HT.out HB)).mono ?_); rintro e w1 ⟨u, rfl, HU, HB1⟩; obtain ⟨A2, c2, rfl, hc2, hC2⟩ := Kd.R_reads HU)
      have HB2 := below_then HB HB.size HB1
      have HO1 := Kd.R_below HO HB1
      have HS1 := Aside0.mk (blk_below HS'.out HB1)
      clear hc hcell hC2
      obtain ⟨wo, rfl⟩ : ∃ wo : World, wo = wr := ⟨_, rfl⟩
      go_loop [12, 27] (fun _ i => ∃ q : Nat, i = .int .i64 q ∧ q ≤ (memI b).length ∧ Aside0 (((mem b).take q).all (fun k => bad f b k == 0) = true)) (fun _ i => (memI b).length - (intOf i).toNat)
      case atStart => exact ⟨0, rfl, by omega, ⟨by simp⟩⟩
      case round =>
        obtain ⟨q, rfl, hq, HQ⟩ := hrel
        by_cases hql : q < (memI b).length
        · obtain ⟨_, _, hC2⟩ := R_at HU
          obtain ⟨ad2, ead2, hc2'⟩ := Kd.at_int hC2 q (by omega) (by omega)
          have hqm : q < (mem b).length := by simpa [memI] using hql
          have hrd : rd (memI b) q = ((mem b)[q] : Int) := by simp [rd, memI, List.getElem?_eq_getElem hqm]
          have he := mem_lt (List.getElem_mem hqm)
          have HM : Aside0 ((mem b)[q] ∈ mem b ∧ (mem b).take (q + 1) = (mem b).take q ++ [(mem b)[q]]) := ⟨List.getElem_mem hqm, List.take_succ_eq_append_getElem hqm⟩
          rw [hrd] at hc2'
          simp only [Int.toNat_natCast] at hc2'
          cases ead2
          generalize (mem b)[q] = e at *
          have hcell2 : w1.cell? ⟨w.heap.size, e, none⟩ = some (.int .u64 (f e)) := by rw [blk_cell HS1.out, setsV_at f e he]
          obtain ⟨hpw, hpl⟩ := pow_u e he
          have hfe := hf e he
          have hor : bits .or .u64 (f e : Int) ((2 : Int) ^ e) = ((nbr f e : Nat) : Int) := by rw [show ((2 : Int) ^ e) = ((2 ^ e : Nat) : Int) by simp]; exact bits_or_u64_nat _ _ hfe hpl
          have hnot : bits .andNot .u64 (b : Int) ((nbr f e : Nat) : Int) = ((andn b (nbr f e) : Nat) : Int) := andNot_u b _ hb (nbr_lt hf he)
          obtain ⟨z, hz⟩ : ∃ z, z = andn b (nbr f e) := ⟨_, rfl⟩
          rw [← hz] at hnot
          have HZ : Aside0 (bad f b e = z) := ⟨hz.symm⟩
          generalize nbr f e = y at *
          clear hz hrd hC2
          by_cases hz0 : z = 0
          · subst hz0
            go_wp2_with fail
            go_round
            case rel => exact ⟨q + 1, by go_num, by omega, ⟨by rw [HM.out.2, List.all_append, HQ.out]; simp [HZ.out]⟩⟩
            case measure => simp [intOf]; omega
          · have d1 : ((z : Int) == 0) = false := by simp; omega
            have d2 : ((z : Int) != 0) = true := by simp; omega
            go_wp2_with fail
            go_ret2
            have hcl : clq f b = false := by
              rw [← Bool.not_eq_true, clq, List.all_eq_true]
              intro h
              have := h e HM.out.1
              rw [HZ.out] at this
              simp at this
              exact hz0 this
            have HN := HEE.out
            rw [hcl] at HN
            exact ⟨_, by rw [HN]; rfl, by rw [HN]; exact Kd.R_nil _ _ _ _ _, HB2⟩
        · obtain rfl : q = (memI b).length := by omega
          have hcl : clq f b = true := by
            have := HQ.out
            rw [List.take_of_length_le (by simp [memI])] at this
            exact this
          have HN := HEE.out
          rw [if_pos hcl] at HN
          have HN' := Aside0.mk HN
          obtain ⟨hpw, hpl⟩ := pow_u v hv
          have hor : bits .or .u64 (x : Int) ((2 : Int) ^ v) = ((x ||| 2 ^ v : Nat) : Int) := by rw [show ((2 : Int) ^ v) = ((2 ^ v : Nat) : Int) by simp]; exact bits_or_u64_nat _ _ hx hpl
          have hx2 : x ||| 2 ^ v < 18446744073709551616 := Nat.or_lt_two_pow (n := 64) hx hpl
          have hsz := HB2.size
          clear HN HEE hcl HQ
          go_wp2_with (at_builtin; go_must (refine Kd.R_append KU w.heap.size (by rfl) (.tmp 42) (.tmp 44) 69 53 (.int .u64 0) 8 (by rfl) Tryd.underlying69 i53 rfl (by decide) (by decide) _ (natsI out) (b : Int) [.int .u64 b] (fun _ => True) (fun _ => False) (by rfl) (by rfl) rfl (fun _ h => h.elim) (fun _ _ => trivial) HO1 HB2 hsz (by simp [natsI]; omega) ?_); intro v1 w3 HO3 HB3 hgr _; have HS3 := Aside0.mk (blk_grown HS1.out hgr (Kd.R_ne HO1 HS1.out (by decide))))
          exact ⟨⟨k + 1, _, out ++ [b], by go_num, by omega, rfl, hx2, by simp [hol], HN', HS3.out, by simpa [natsI] using HO3, HB3⟩, by simp [intOf]; omega⟩
    · obtain rfl : k = order.length := by omega
      have h := HE.out
      rw [List.drop_length, earl] at h
      have H := Aside0.mk h
      clear h
      go_wp2_with fail
      go_ret2
      exact ⟨_, by rw [H.out]; rfl, by rw [H.out]; exact HO, HB⟩
end Go.Proofs.YtkkfoonaobehaaaDoor.Earl
