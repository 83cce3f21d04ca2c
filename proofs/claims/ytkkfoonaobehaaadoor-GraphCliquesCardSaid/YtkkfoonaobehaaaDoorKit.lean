import Derived.Test.YtkkfoonaobehaaaDoorWWords
import Derived.Deep.MidRow
import Derived.Deep.DeepMust
namespace Go.Proofs.YtkkfoonaobehaaaDoor.Kit
open Go.RowKit Go.Proofs.YtkkfoonaobehaaaDoorW.PrintWords
variable {P : Program}

theorem grownBy_set (W : World) (b i : Nat) (v : Value) : W.grownBy (W.setCell ⟨b, i, none⟩ v) (some b) :=
  ⟨rfl, rfl, rfl, by simp [World.setCell], fun k _ hk => Below.heap_setCell W _ v k (fun e => hk (by simp at e; rw [e]))⟩
theorem setCells_grown (b : Nat) : ∀ (vs : List Value) (o : Nat) (w : World), w.grownBy (w.setCells b o vs) (some b)
  | [], _, w => World.grownBy.refl w _
  | v :: r, o, w => (grownBy_set w b o v).trans (setCells_grown b r (o + 1) _)
theorem setCells_row (b : Nat) (t : TypeId) : ∀ (vs : List Value) (o : Nat) (w : World) (cs : Array Value), w.heap[b]? = some (.cells cs t (0, 0)) → o + vs.length ≤ cs.size →
    ∃ cs' : Array Value, (w.setCells b o vs).heap[b]? = some (.cells cs' t (0, 0)) ∧ cs'.size = cs.size ∧ ∀ i, cs'[i]? = if o ≤ i ∧ i < o + vs.length then vs[i - o]? else cs[i]?
  | [], o, w, cs, h, _ => ⟨cs, h, rfl, fun i => by rw [if_neg (by simp)]⟩
  | v :: r, o, w, cs, h, hl => by
    simp only [List.length_cons] at hl
    obtain ⟨cs', h1, h2, h3⟩ := setCells_row b t r (o + 1) (w.setCell ⟨b, o, none⟩ v) (cs.setIfInBounds o v) (blk_set h o v) (by simp; omega)
    refine ⟨cs', h1, by simpa using h2, fun i => ?_⟩
    rw [h3 i]
    by_cases e : i = o
    · subst e
      rw [if_neg (by omega), if_pos (by simp), Array.getElem?_setIfInBounds]
      have : i < cs.size := by omega
      simp [this]
    · by_cases hi : o + 1 ≤ i ∧ i < o + 1 + r.length
      · rw [if_pos hi, if_pos (by simp; omega)]
        have : i - o = (i - (o + 1)) + 1 := by omega
        rw [this]
        simp
      · rw [if_neg hi, if_neg (by simp; omega), Array.getElem?_setIfInBounds, if_neg (fun h => e h.symm)]
/-- A whole row or struct is written over a block of just its size. -/
theorem store_row {ops : Array Oper} {rest : List Oper} {op : Oper} {a : Act} {w : World} {Q : Exit → Act → World → Prop} (hgd : op.guard = none) (ty : TypeId) (x y : Operand) (ho : op.op = .store ty x y)
    (b : Nat) (t : TypeId) (cs cells : Array Value) (hx : a.eval x = .pointer (some ⟨b, 0, none⟩)) (hy : a.eval y = .agg cells) (hb : w.heap[b]? = some (.cells cs t (0, 0))) (hs : cs.size = cells.size)
    (hi : (P.info? ty).map (·.size) = some cells.size) (h1 : ∀ v ∈ cells, v.oneCell' = true)
    (h : ∀ w', w'.heap[b]? = some (.cells cells t (0, 0)) → w.grownBy w' (some b) → wpList P ops Q rest (a.put op.dst undef) w') : wpList P ops Q (op :: rest) a w := by
  refine wpList_store_mid hgd ty x y ho b 0 cells hx hy (fun j hj => ?_) hi (Array.all_eq_true_iff_forall_mem.2 h1) (h _ ?_ (setCells_grown b _ 0 w))
  · have : j < cs.size := by omega
    rw [Nat.zero_add, blk_cell hb, blk_frozen hb]
    simp [this]
  · obtain ⟨cs', h2, h3, h4⟩ := setCells_row b t cells.toList 0 w cs hb (by simp [hs])
    rw [h2]
    have : cs' = cells := by
      apply Array.ext_getElem?
      intro i
      rw [h4 i]
      by_cases hi : i < cells.size
      · rw [if_pos (by simp; exact hi)]
        simp
      · rw [if_neg (by simp; omega), Array.getElem?_eq_none (by omega), Array.getElem?_eq_none (by omega)]
    rw [this]
theorem R_grownB {α : Type} {d : Kd α} {e base g t : Nat} {w w1 : World} {ok : Nat → Prop} {v : Value} {xs : List α} {cells : Array Value} (h : d.R e w base ok v xs) (hb : w.heap[g]? = some (.cells cells t (0, 0))) (ht : ∀ q, q ∈ e :: d.E → q ≠ t) (hg : w.grownBy w1 (some g)) : d.R e w1 base ok v xs :=
  Kd.R_mono (Kd.R_grown (Kd.R_types h hb ht) hg (fun k hk e => hk.2 (by injection e))) (fun _ hk => hk.1)
theorem below_of_drew (w : World) (n : Nat) (B : Nat) : Below B w (w.drewN n) := ⟨rfl, rfl, rfl, Nat.le_refl _, fun _ _ => rfl⟩
theorem C_drew {α : Type} {d : Kd α} {w : World} {A : Option Addr} {k : Nat} {xs : List α} (h : d.C w A k xs) (n : Nat) : d.C (w.drewN n) A k xs := Kd.C_below h (below_of_drew w n _)
theorem R_drew {α : Type} {d : Kd α} {e base : Nat} {w : World} {ok : Nat → Prop} {v : Value} {xs : List α} (h : d.R e w base ok v xs) (n : Nat) : d.R e (w.drewN n) base ok v xs := Kd.R_move h (fun _ _ => rfl)
theorem M_drew {α : Type} {d : Kd α} {base : Nat} {w : World} {ok : Nat → Prop} {x : α} {cs : List Value} (h : d.M w base ok x cs) (n : Nat) : d.M (w.drewN n) base ok x cs := d.M_move (w := w) (fun _ _ => rfl) h
theorem grown_drew {w w' : World} {row : Option Nat} (h : w.grownBy w' row) (n : Nat) : w.grownBy (w'.drewN n) row := ⟨h.os, h.tape, h.output, h.size, h.block⟩
theorem grown_of_drew {w w' : World} {row : Option Nat} {n : Nat} (h : (w.drewN n).grownBy w' row) : w.grownBy w' row := ⟨h.os, h.tape, h.output, h.size, h.block⟩
end Go.Proofs.YtkkfoonaobehaaaDoor.Kit
