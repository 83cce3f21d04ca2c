import Derived.Test.YtkkfoonaobehaaaDoorRow
import Derived.Test.YtkkfoonaobehaaaDoorSort
namespace Go.Proofs.YtkkfoonaobehaaaDoor.RowL
open Go.ChangeShapes Go.WideShapes Go.ChangeAt Go.RowKit
open Go.Proofs.YtkkfoonaobehaaaDoorW.PrintWords Go.Proofs.YtkkfoonaobehaaaDoor.Low Go.Proofs.YtkkfoonaobehaaaDoor.Sets Go.Proofs.YtkkfoonaobehaaaDoor.Sort Go.Proofs.YtkkfoonaobehaaaDoor.Row
set_option linter.unusedVariables false
set_option maxRecDepth 100000
/-- A slice of ints that came in, as a row. -/
theorem ints_of_trod {H : Type} {enc : TypeId × Value → H} {W : World} {sp : Nat → Bool} {held : Bool} {fuel : Nat} {cs : List Value} {x : DataW H × List MemPlace} (h : DataW.trod enc Tryd.prog W 0 sp held fuel 40 cs = some x) :
    ∃ A c xs, cs = [.slice A (xs : List Int).length c] ∧ xs.length ≤ c ∧ KI.C W A xs.length xs := by
  have c3 : Tryd.prog.cellsOf 3 = 1 := by kernel_rfl
  rcases DataW.trod_slice Tryd.underlying40 h with ⟨hc, _⟩ | ⟨a, len, cap, elems, rest, n, _, hcs, hx, _, hl, hm, hlen, hel, _⟩
  · exact ⟨none, 0, [], hc, Nat.le_refl _, Kd.C_nil _ _⟩
  · have key : ∀ i : Nat, ∃ p : Int, i < len → W.cell? (a.add i) = some (.int .i64 p) := by
      intro i
      by_cases hi : i < len
      · have hE := hel i hi
        rw [c3, Nat.mul_one, List.getElem?_eq_getElem (by omega)] at hE
        obtain ⟨c1, hc1, hy1⟩ := Option.bind_eq_some_iff.1 hE
        obtain ⟨_, hcl, hcell⟩ := World.cells?_some hc1
        obtain ⟨k0, e0, _, _⟩ := DataW.trod_int Tryd.underlying3 hy1
        have q0 := hcell 0 (by decide)
        rw [addA] at q0
        subst e0
        exact ⟨k0, fun _ => by simpa using q0⟩
      · exact ⟨0, fun h => absurd h hi⟩
    obtain ⟨f, hf⟩ := Classical.skolem.1 key
    have hlE : ((List.range len).map f).length = len := by simp
    refine ⟨some a, cap, (List.range len).map f, by rw [hlE]; exact hcs, by rw [hlE]; exact hl, ?_⟩
    refine ⟨rfl, by rw [hlE]; unfold maxLen at hm; omega, fun _ => ⟨a, rfl, fun j p hp => ⟨[.int .i64 p], rfl, rfl, fun i u hu => ?_⟩⟩⟩
    have hj : j < len := by
      have := (List.getElem?_eq_some_iff.1 hp).1
      simpa using this
    have hpf : f j = p := by simpa [hj] using hp
    have z0 := hf j hj
    rw [hpf] at z0
    rw [show Kd.sz KI = 1 from rfl]
    match i, hu with
    | 0, hu =>
      obtain rfl : _ = u := by simpa using hu
      simpa using z0
/-- A slice of slices of ints that came in, as a row of rows. -/
theorem lists_of_trod {H : Type} {enc : TypeId × Value → H} {W : World} {sp : Nat → Bool} {held : Bool} {fuel : Nat} {cs : List Value} {x : DataW H × List MemPlace} (h : DataW.trod enc Tryd.prog W 0 sp held fuel 34 cs = some x) :
    ∃ A c L, cs = [.slice A (L : List (List Int)).length c] ∧ L.length ≤ 9223372036854775807 ∧ KS.C W A L.length L := by
  have c40 : Tryd.prog.cellsOf 40 = 1 := by kernel_rfl
  rcases DataW.trod_slice Tryd.underlying34 h with ⟨hc, _⟩ | ⟨a, len, cap, elems, rest, n, _, hcs, hx, _, hl, hm, hlen, hel, _⟩
  · exact ⟨none, 0, [], hc, by simp, Kd.C_nil _ _⟩
  · have key : ∀ i : Nat, ∃ p : List Int, i < len → ∃ A c, W.cell? (a.add i) = some (.slice A p.length c) ∧ p.length ≤ c ∧ KI.C W A p.length p := by
      intro i
      by_cases hi : i < len
      · have hE := hel i hi
        rw [c40, Nat.mul_one, List.getElem?_eq_getElem (by omega)] at hE
        obtain ⟨c1, hc1, hy1⟩ := Option.bind_eq_some_iff.1 hE
        obtain ⟨_, hcl, hcell⟩ := World.cells?_some hc1
        obtain ⟨A, c, xs, e0, hle, hC⟩ := ints_of_trod hy1
        have q0 := hcell 0 (by decide)
        rw [addA] at q0
        subst e0
        exact ⟨xs, fun _ => ⟨A, c, by simpa using q0, hle, hC⟩⟩
      · exact ⟨[], fun h => absurd h hi⟩
    obtain ⟨f, hf⟩ := Classical.skolem.1 key
    have hlE : ((List.range len).map f).length = len := by simp
    refine ⟨some a, cap, (List.range len).map f, by rw [hlE]; exact hcs, by rw [hlE]; unfold maxLen at hm; omega, ?_⟩
    refine ⟨rfl, by rw [hlE]; unfold maxLen at hm; omega, fun _ => ⟨a, rfl, fun j p hp => ?_⟩⟩
    have hj : j < len := by
      have := (List.getElem?_eq_some_iff.1 hp).1
      simpa using this
    have hpf : f j = p := by simpa [hj] using hp
    have z0 := hf j hj
    rw [hpf] at z0
    obtain ⟨A, c, z1, z2, z3⟩ := z0
    refine ⟨[.slice A p.length c], rfl, ⟨A, c, rfl, z2, z3⟩, fun i u hu => ?_⟩
    rw [show Kd.sz KS = 1 from rfl]
    match i, hu with
    | 0, hu =>
      obtain rfl : _ = u := by simpa using hu
      simpa using z1
end Go.Proofs.YtkkfoonaobehaaaDoor.RowL
