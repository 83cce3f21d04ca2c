import Derived.Test.YtkkfoonaobehaaaDoorWWords
import Derived.Test.YtkkfoonaobehaaaDoorProg
import Derived.Test.YtkkfoonaobehaaaDoorBits
import Derived.Shelf.Spec.TrailingZeros
import Derived.Laws.Bits64b
namespace Go.Proofs.YtkkfoonaobehaaaDoor.Low
open Go.RowKit Go.Proofs.YtkkfoonaobehaaaDoorW.PrintWords Go.Proofs.YtkkfoonaobehaaaDoor.Bits
set_option maxHeartbeats 4000000
set_option maxRecDepth 100000

theorem i3 : (Tryd.prog.info? 3).map (fun i => (i.zero, i.size, i.bytes)) = some (some (.int .i64 0), 1, 8) := by kernel_rfl
theorem i53 : (Tryd.prog.info? 53).map (fun i => (i.zero, i.size, i.bytes)) = some (some (.int .u64 0), 1, 8) := by kernel_rfl
abbrev KI : Kd Int := Kd.int .i64
abbrev T : World → Prop := TabAt 0 Lib.deBruijn64tab
theorem T_below {w w1 : World} (h : T w) (hb : Below w.heap.size w w1) : T w1 := fun j hj => pw_cell_below hb (h j hj)
theorem T_drew {w : World} (h : T w) (n : Nat) : T (w.drewN n) := fun j hj => h j hj
theorem T_pos {w : World} (h : T w) : 0 < w.heap.size := World.block_lt_of_cell? w _ (h 0 (by decide))

/-! ### math/bits -/
theorem and_u (a b : Nat) (ha : a < 18446744073709551616) (hb : b < 18446744073709551616) : bits .and .u64 (a : Int) (b : Int) = ((a &&& b : Nat) : Int) := bits_and_u64_nat a b ha hb
theorem wrap_u (a : Nat) (ha : a < 18446744073709551616) : IntKind.u64.wrap (a : Int) = (a : Int) := by rw [IntKind.wrap_u64]; omega
theorem wrap_ua (a b c : Nat) (h : c = (a + b) % 18446744073709551616) : IntKind.u64.wrap ((a : Int) + (b : Int)) = (c : Int) := by rw [IntKind.wrap_u64, h]; omega
theorem div_u (a b : Nat) : (a : Int) / (b : Int) = ((a / b : Nat) : Int) := by simp
theorem and127 (z : Nat) (h : z < 18446744073709551616) : bits .and .i64 (wrap64 (z : Int)) 127 = ((z % 128 : Nat) : Int) := by
  have h1 : (BitVec.ofInt 64 (wrap64 (z : Int))).toNat = z := by
    rw [BitVec.toNat_ofInt]
    unfold wrap64
    omega
  show IntKind.i64.wrap (((BitVec.ofInt 64 (wrap64 (z : Int))) &&& (BitVec.ofInt 64 127)).toNat : Int) = _
  rw [BitVec.toNat_and, h1, show (BitVec.ofInt 64 127).toNat = 127 from by decide]
  have := @Nat.and_two_pow_sub_one_eq_mod z 7
  simp only [show (2:Nat)^7 - 1 = 127 from rfl] at this
  rw [this, IntKind.wrap_i64]
  omega

theorem ones_any (u : Nat) (hu : u < 18446744073709551616) (w : World) :
    Calls Tryd.prog 55 #[.int .u64 u] w fun e w' => e = .returned (.int .i64 (pc u)) ∧ w = w' := by
  obtain ⟨x1, h1⟩ : ∃ x, x = (u / 2 &&& 6148914691236517205) + (u &&& 6148914691236517205) := ⟨_, rfl⟩
  obtain ⟨x2, h2⟩ : ∃ x, x = (x1 / 4 &&& 3689348814741910323) + (x1 &&& 3689348814741910323) := ⟨_, rfl⟩
  obtain ⟨x3, h3⟩ : ∃ x, x = (x2 / 16 + x2) &&& 1085102592571150095 := ⟨_, rfl⟩
  obtain ⟨y, hy⟩ : ∃ y, y = (x3 + x3 / 256) % 18446744073709551616 := ⟨_, rfl⟩
  obtain ⟨z, hz⟩ : ∃ z, z = (y + y / 65536) % 18446744073709551616 := ⟨_, rfl⟩
  obtain ⟨l1, l2, l23, l3, hc⟩ := count u x1 x2 x3 y z hu h1 h2 h3 hy hz
  have k1 : IntKind.u64.wrap (bits .and .u64 ((u : Int) / 2) 6148914691236517205 + bits .and .u64 (u : Int) 6148914691236517205) = (x1 : Int) := by
    rw [show ((u : Int) / 2) = ((u / 2 : Nat) : Int) from div_u u 2, show (6148914691236517205 : Int) = ((6148914691236517205 : Nat) : Int) from rfl, and_u _ _ (by omega) (by decide), and_u _ _ hu (by decide), wrap_ua _ _ x1 (by omega)]
  have k2 : IntKind.u64.wrap (bits .and .u64 ((x1 : Int) / 4) 3689348814741910323 + bits .and .u64 (x1 : Int) 3689348814741910323) = (x2 : Int) := by
    rw [show ((x1 : Int) / 4) = ((x1 / 4 : Nat) : Int) from div_u x1 4, show (3689348814741910323 : Int) = ((3689348814741910323 : Nat) : Int) from rfl, and_u _ _ (by omega) (by decide), and_u _ _ l1 (by decide), wrap_ua _ _ x2 (by omega)]
  have k3 : bits .and .u64 (IntKind.u64.wrap ((x2 : Int) / 16 + (x2 : Int))) 1085102592571150095 = (x3 : Int) := by
    rw [show ((x2 : Int) / 16) = ((x2 / 16 : Nat) : Int) from div_u x2 16, wrap_ua _ _ _ rfl, Nat.mod_eq_of_lt l23, show (1085102592571150095 : Int) = ((1085102592571150095 : Nat) : Int) from rfl, and_u _ _ l23 (by decide), h3]
  have k4 : IntKind.u64.wrap ((x3 : Int) + (x3 : Int) / 256) = (y : Int) := by
    rw [show ((x3 : Int) / 256) = ((x3 / 256 : Nat) : Int) from div_u x3 256, wrap_ua _ _ y hy]
  have k5 : IntKind.u64.wrap ((y : Int) + (y : Int) / 65536) = (z : Int) := by
    rw [show ((y : Int) / 65536) = ((y / 65536 : Nat) : Int) from div_u y 65536, wrap_ua _ _ z hz]
  have k6 : bits .and .i64 (wrap64 (IntKind.u64.wrap ((z : Int) + (z : Int) / 4294967296))) 127 = (pc u : Int) := by
    rw [show ((z : Int) / 4294967296) = ((z / 4294967296 : Nat) : Int) from div_u z 4294967296, wrap_ua _ _ _ rfl, and127 _ (Nat.mod_lt _ (by decide)), hc]
  clear h1 h2 h3 hy hz l1 l2 l23 l3 hc hu
  go_enter Tryd.func55, Tryd.ntmps55
  go_wp2
  go_ret
  exact ⟨rfl, rfl⟩

theorem tz_core (x k idx : Nat) (w : World) (hx0 : ((x : Int) == 0) = false)
    (key : IntKind.u64.wrap (bits BinOp.and IntKind.u64 (x : Int) (IntKind.u64.wrap (-(x : Int))) * 285870213051353865) / 288230376151711744 = (idx : Int))
    (hi : idx < 64) (hk : k < 64) (hcell : w.cell? ⟨0, idx, none⟩ = some (.int .u8 k)) :
    Calls Tryd.prog 59 #[.int .u64 x] w fun e w' => e = .returned (.int .i64 k) ∧ w = w' := by
  go_enter Tryd.func59, Tryd.ntmps59
  go_wp2_with (simp only [key])
  go_ret
  exact ⟨rfl, rfl⟩
theorem tz_any (u : Nat) (w : World) (hT : T w) (h0 : u ≠ 0) (h : u < 18446744073709551616) :
    Calls Tryd.prog 59 #[.int .u64 u] w fun e w' => e = .returned (.int .i64 (Lib.ctz 64 u)) ∧ w = w' := by
  obtain ⟨hlow, hk⟩ := Lib.lowest_bit 64 u h0 h
  obtain ⟨hi, htab⟩ := Lib.deBruijn64_at _ hk
  have hcell := hT _ hi
  rw [htab] at hcell
  exact tz_core u _ _ w (by simp; omega) (tz64_key u _ h h0 hlow) hi hk hcell

/-! ### members -/
def memI (u : Nat) : List Int := (mem u).map Int.ofNat
theorem memI_zero : memI 0 = [] := by simp [memI, mem_zero]
theorem memI_step (u : Nat) (h0 : u ≠ 0) (h : u < 18446744073709551616) : memI u = (Lib.ctz 64 u : Int) :: memI (u &&& (u - 1)) := by
  simp [memI, mem_step u h0 h]
theorem memI_len (u : Nat) : (memI u).length ≤ 64 := by have := pc_le u; simpa [memI, pc] using this

theorem members_any (u : Nat) (hu : u < 18446744073709551616) (w : World) (hT : T w) :
    Calls Tryd.prog 50 #[.int .u64 u] w fun e w' => ∃ v, e = .returned v ∧ Kd.R KI 3 w' w.heap.size (fun _ => True) v (memI u) ∧ Below w.heap.size w w' := by
  have HT := Aside0.mk hT
  clear hT
  go_enter Tryd.func50, Tryd.ntmps50
  go_wp2
  go_loopw [0, 3] (fun x o wr => ∃ (y : Nat) (xs : List Int), x = .int .u64 y ∧ y < 18446744073709551616 ∧ Aside0 (xs ++ memI y = memI u) ∧ Kd.R KI 3 wr w.heap.size (fun _ => True) o xs ∧ Below w.heap.size w wr) (fun x _ _ => (intOf x).toNat)
  case atStart => exact ⟨u, [], rfl, hu, ⟨rfl⟩, Kd.R_nil _ _ _ _ _, Below.refl _ _⟩
  case round =>
    obtain ⟨y, xs, rfl, hy, HS, HO, HB⟩ := hrel
    by_cases h0 : y = 0
    · subst h0
      go_wp2
      go_ret
      refine ⟨_, rfl, ?_, HB⟩
      have := HS.out
      rw [memI_zero, List.append_nil] at this
      rw [← this]
      exact HO
    · have hne : ((y : Int) == 0) = false := by simp; omega
      have hne' : ((y : Int) != 0) = true := by simp; omega
      have hsz := HB.size
      have hl : xs.length ≤ 64 := by
        have h1 := memI_len u
        rw [← HS.out] at h1
        simp at h1
        omega
      obtain ⟨z, hz, hzlt, hz0⟩ : ∃ z : Nat, z = y &&& (y - 1) ∧ z < y ∧ Aside0 (memI y = (Lib.ctz 64 y : Int) :: memI z) := ⟨_, rfl, and_pred_lt y h0, ⟨memI_step y h0 hy⟩⟩
      have hand : bits .and .u64 (y : Int) ((y : Int) - 1) = (z : Int) := by
        rw [show ((y : Int) - 1) = ((y - 1 : Nat) : Int) by omega, and_u _ _ hy (by omega), hz]
      clear hz
      go_wp2_with (first
        | (go_at_call 59; refine (tz_any y _ (T_below HT.out HB) h0 hy).mono ?_; rintro e w' ⟨rfl, rfl⟩)
        | (at_builtin; go_loud (refine Kd.R_append KI w.heap.size (by rfl) (.tmp 10) (.tmp 13) 40 3 (.int .i64 0) 8 (by rfl) Tryd.underlying40 i3 rfl (by decide) (by decide) _ xs (Lib.ctz 64 y : Int) [.int .i64 (Lib.ctz 64 y)] (fun _ => True) (fun _ => False) (by rfl) (by rfl) rfl (fun _ h => h.elim) (fun _ _ => trivial) HO HB hsz (by omega) ?_); intro v1 w1 HO1 HB1 _ _))
      go_outline
      go_roundw
      case rel => 
        refine ⟨z, xs ++ [(Lib.ctz 64 y : Int)], rfl, by omega, ⟨?_⟩, HO1, HB1⟩
        rw [← HS.out, hz0.out]
        simp
      case measure => simp [intOf]; omega
end Go.Proofs.YtkkfoonaobehaaaDoor.Low
