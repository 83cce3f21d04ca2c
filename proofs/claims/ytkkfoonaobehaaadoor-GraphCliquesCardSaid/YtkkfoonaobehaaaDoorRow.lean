import Derived.Test.YtkkfoonaobehaaaDoorRows
import Derived.Test.YtkkfoonaobehaaaDoorTie
import Derived.Test.YtkkfoonaobehaaaDoorRead
import Derived.WalkKit
import Derived.ProofKit
import Derived.OpenShut
import Derived.ChangeOld
import Derived.Below
import Derived.SizedLaws
import Derived.Handed
import Derived.LaidMore
import Derived.Lay
import Derived.LaidOnce
import Derived.SevenTiedAt
namespace Go.Proofs.YtkkfoonaobehaaaDoor.Row
open Go.ChangeShapes Go.WideShapes Go.ChangeAt Go.RowKit
open Go.Proofs.YtkkfoonaobehaaaDoorW.PrintWords Go.Proofs.YtkkfoonaobehaaaDoor.Low Go.Proofs.YtkkfoonaobehaaaDoor.Sets
set_option linter.unusedVariables false
set_option maxRecDepth 100000
theorem own : ownKnob Tryd.prog.godebug = none := by kernel_rfl
theorem laidOut : laidOutB Tryd.prog = true := by kernel_rfl
theorem addA (a : Addr) (i j : Nat) : (a.add i).add j = a.add (i + j) := by
  unfold Addr.add
  by_cases hi : i = 0 <;> by_cases hj : j = 0 <;> simp [hi, hj, Nat.add_assoc]
/-- A slice of pairs that came in, as a row of pairs. -/
theorem pairs_of_trod {H : Type} {enc : TypeId × Value → H} {W : World} {sp : Nat → Bool} {held : Bool} {fuel : Nat} {cs : List Value} {x : DataW H × List MemPlace} (h : DataW.trod enc Tryd.prog W 0 sp held fuel 22 cs = some x) :
    ∃ A c E, cs = [.slice A E.length c] ∧ KE.C W A E.length E := by
  have c46 : Tryd.prog.cellsOf 46 = 2 := by kernel_rfl
  have c3 : Tryd.prog.cellsOf 3 = 1 := by kernel_rfl
  rcases DataW.trod_slice Tryd.underlying22 h with ⟨hc, _⟩ | ⟨a, len, cap, elems, rest, n, _, hcs, hx, _, hl, hm, hlen, hel, _⟩
  · exact ⟨none, 0, [], hc, Kd.C_nil _ _⟩
  · have key : ∀ i : Nat, ∃ p : Int × Int, i < len → W.cell? (a.add (i * 2)) = some (.int .i64 p.1) ∧ W.cell? (a.add (i * 2 + 1)) = some (.int .i64 p.2) := by
      intro i
      by_cases hi : i < len
      · have hE := hel i hi
        rw [c46, List.getElem?_eq_getElem (by omega)] at hE
        obtain ⟨c1, hc1, hy1⟩ := Option.bind_eq_some_iff.1 hE
        obtain ⟨_, hcl, hcell⟩ := World.cells?_some hc1
        obtain ⟨xs, m, _, _, _, hxl, hel2⟩ := DataW.trod_array Tryd.underlying46 hy1
        have h0 := hel2 0 (by decide)
        have h1 := hel2 1 (by decide)
        rw [c3, List.getElem?_eq_getElem (by omega)] at h0 h1
        obtain ⟨k0, e0, _, _⟩ := DataW.trod_int Tryd.underlying3 h0
        obtain ⟨k1, e1, _, _⟩ := DataW.trod_int Tryd.underlying3 h1
        have q0 := hcell 0 (by decide)
        have q1 := hcell 1 (by decide)
        rw [addA] at q0 q1
        match c1, hcl, e0, e1, q0, q1 with
        | [u0, u1], _, e0, e1, q0, q1 =>
          simp at e0 e1
          subst e0
          subst e1
          exact ⟨(k0, k1), fun _ => ⟨by simpa using q0, by simpa using q1⟩⟩
      · exact ⟨(0, 0), fun h => absurd h hi⟩
    obtain ⟨f, hf⟩ := Classical.skolem.1 key
    have hlE : ((List.range len).map f).length = len := by simp
    refine ⟨some a, cap, (List.range len).map f, by rw [hlE]; exact hcs, ?_⟩
    refine ⟨rfl, by rw [hlE]; unfold maxLen at hm; omega, fun _ => ⟨a, rfl, fun j p hp => ⟨[.int .i64 p.1, .int .i64 p.2], rfl, ⟨[.int .i64 p.1], [.int .i64 p.2], rfl, rfl, rfl⟩, fun i u hu => ?_⟩⟩⟩
    have hj : j < len := by
      have := (List.getElem?_eq_some_iff.1 hp).1
      simpa using this
    have hpf : f j = p := by simpa [hj] using hp
    obtain ⟨z0, z1⟩ := hf j hj
    rw [hpf] at z0 z1
    rw [show Kd.sz KE = 2 from rfl]
    match i, hu with
    | 0, hu =>
      obtain rfl : _ = u := by simpa using hu
      simpa using z0
    | 1, hu =>
      obtain rfl : _ = u := by simpa using hu
      simpa using z1

abbrev laidL : List (String × DataW Unit) := [("math/bits.deBruijn64tab", Rows.laid_math_bits_deBruijn64tab)]
theorem gTab : Tryd.prog.globalNamed "math/bits.deBruijn64tab" = some 0 := by kernel_rfl
theorem tTab : (Tryd.prog.globals[0]?).map (·.type) = some 84 := by kernel_rfl
/-- What the listed variable gives the walks. -/
theorem T_of_laid {W : World} (h : laidMetH Tryd.prog laidL W) : T W := by
  rw [MakeChecks.laidMetH_plain _ _ _ (by kernel_rfl)] at h
  obtain ⟨ps, ⟨g0, t0, cs0, f0, p0, q0, hg0, ht0, hv0, hd0, _, _⟩, _, _⟩ := h
  obtain rfl := Option.some.inj (gTab.symm.trans hg0)
  obtain rfl := Option.some.inj (tTab.symm.trans ht0)
  obtain ⟨xs, m1, _, hx1, _, hn, hel⟩ := DataW.trod_array Tryd.underlying84 hd0
  have c5 : Tryd.prog.cellsOf 5 = 1 := by kernel_rfl
  simp only [Prod.mk.injEq] at hx1
  have hlist : (xs.map (·.1)) = Lib.deBruijn64tab.map fun n : Nat => (DataW.lit (.int .u8 n) : DataW Unit) := by
    have h1 := hx1.1
    unfold Rows.laid_math_bits_deBruijn64tab at h1
    injection h1 with h1
    rw [← h1]
    rfl
  intro j hj
  have hj64 : j < 64 := hj
  have hE := hel j (by simpa using hj64)
  rw [c5, Nat.mul_one, List.getElem?_eq_getElem (by omega)] at hE
  obtain ⟨k, e1, e2, _⟩ := DataW.trod_int Tryd.underlying5 hE
  have hk : (xs.map (·.1))[j]? = some (DataW.lit (.int .u8 k)) := by
    rw [List.getElem?_map, List.getElem?_eq_getElem (by omega)]
    rw [e2]
    rfl
  rw [hlist, List.getElem?_map, List.getElem?_eq_getElem hj] at hk
  simp only [Option.map_some, Option.some.injEq, DataW.lit.injEq, Lit.int.injEq, true_and] at hk
  have hcell := World.var?_cell hg0 hv0 j
  rw [hcell, ← Array.getElem?_toList]
  have hd : cs0.toList[j]? = some (.int .u8 k) := by
    have := congrArg (·[0]?) e1
    simpa using this
  rw [hd, ← hk]
  simp [List.getD_eq_getElem?_getD, List.getElem?_eq_getElem hj]
end Go.Proofs.YtkkfoonaobehaaaDoor.Row
