import Derived.Test.YtkkfoonaobehaaaDoorEarl
namespace Go.Proofs.YtkkfoonaobehaaaDoor.Ext
open Go.RowKit Go.Proofs.YtkkfoonaobehaaaDoorW.PrintWords Go.Proofs.YtkkfoonaobehaaaDoor.Bits Go.Proofs.YtkkfoonaobehaaaDoor.Low Go.Proofs.YtkkfoonaobehaaaDoor.Sets Go.Proofs.YtkkfoonaobehaaaDoor.Read Go.Proofs.YtkkfoonaobehaaaDoor.Search Go.Proofs.YtkkfoonaobehaaaDoor.Earl
open Go.Proofs.YtkkfoonaobehaaaDoor.Kit (store_row R_grownB)
set_option maxHeartbeats 4000000
set_option maxRecDepth 100000

def fewer (f : Nat → Nat) (gone : Nat) (b : Int × Int) (i : Nat) : Int × Int := if gone.testBit i = false ∧ (pc (andn (f i) gone) : Int) < b.2 then ((i : Int), (pc (andn (f i) gone) : Int)) else b
def minTo (f : Nat → Nat) (gone k : Nat) : Int × Int := (List.range k).foldl (fewer f gone) (-1, 65)
theorem minTo_succ (f : Nat → Nat) (gone k : Nat) : minTo f gone (k + 1) = fewer f gone (minTo f gone k) k := by simp [minTo, List.range_succ]
theorem minTo_bd (f : Nat → Nat) (gone k : Nat) : -1 ≤ (minTo f gone k).1 ∧ (minTo f gone k).1 < k ∧ 0 ≤ (minTo f gone k).2 ∧ (minTo f gone k).2 ≤ 65 := by
  induction k with
  | zero => simp [minTo]
  | succ k ih =>
    rw [minTo_succ]
    unfold fewer
    split
    · rename_i h
      have := h.2
      simp only
      omega
    · omega
theorem minTo_found (f : Nat → Nat) (gone k : Nat) : ((minTo f gone k).2 = 65 ∧ ∀ i, i < k → gone.testBit i = true) ∨ (∃ v : Nat, (minTo f gone k).1 = v ∧ v < k ∧ gone.testBit v = false ∧ (minTo f gone k).2 = (pc (andn (f v) gone) : Int) ∧ ∀ i, i < k → gone.testBit i = false → pc (andn (f v) gone) ≤ pc (andn (f i) gone)) := by
  induction k with
  | zero => left; simp [minTo]
  | succ k ih =>
    rw [minTo_succ]
    unfold fewer
    by_cases h : gone.testBit k = false ∧ (pc (andn (f k) gone) : Int) < (minTo f gone k).2
    · rw [if_pos h]
      refine .inr ⟨k, rfl, by omega, h.1, rfl, fun i hi hg => ?_⟩
      by_cases e : i = k
      · rw [e]; exact Nat.le_refl _
      · rcases ih with ⟨h1, h2⟩ | ⟨v, h1, h2, h3, h4, h5⟩
        · rw [h2 i (by omega)] at hg; cases hg
        · have := h5 i (by omega) hg
          have := h.2
          omega
    · rw [if_neg h]
      rcases ih with ⟨h1, h2⟩ | ⟨v, h1, h2, h3, h4, h5⟩
      · left
        refine ⟨h1, fun i hi => ?_⟩
        by_cases e : i = k
        · subst e
          by_cases hb : gone.testBit i = true
          · exact hb
          · exact absurd ⟨by simpa using hb, by rw [h1]; have := pc_le (andn (f i) gone); omega⟩ h
        · exact h2 i (by omega)
      · refine .inr ⟨v, h1, by omega, h3, h4, fun i hi hg => ?_⟩
        by_cases e : i = k
        · subst e
          by_cases hc : (pc (andn (f i) gone) : Int) < (minTo f gone i).2
          · exact absurd ⟨hg, hc⟩ h
          · omega
        · exact h5 i (by omega) hg
def joinRow (f : Nat → Nat) (a : Nat) (l : List Nat) : Nat → Nat := l.foldl (fun f b => join f a b) f
def joinsTo (l : List Nat) (f : Nat → Nat) : Nat → Nat → Nat
  | 0 => f
  | i + 1 => joinRow (joinsTo l f i) (l.getD i 0) (l.take i)
theorem joinRow_bd {f : Nat → Nat} (h : Bd f) {a : Nat} (ha : a < 64) : ∀ l : List Nat, (∀ b ∈ l, b < 64) → Bd (joinRow f a l) := by
  intro l
  induction l generalizing f with
  | nil => intro _; exact h
  | cons b l ih => intro hl; exact ih (join_bd h ha (hl b (by simp))) (fun x hx => hl x (by simp [hx]))
theorem joinRow_snoc (f : Nat → Nat) (a : Nat) (l : List Nat) (j : Nat) (h : j < l.length) : joinRow f a (l.take (j + 1)) = join (joinRow f a (l.take j)) a l[j] := by
  rw [List.take_succ_eq_append_getElem h, joinRow, List.foldl_append]
  rfl
theorem joinsTo_bd {f : Nat → Nat} (h : Bd f) {l : List Nat} (hl : ∀ b ∈ l, b < 64) : ∀ i, i ≤ l.length → Bd (joinsTo l f i)
  | 0, _ => h
  | i + 1, hi => by
    refine joinRow_bd (joinsTo_bd h hl i (by omega)) ?_ _ (fun b hb => hl b (List.mem_of_mem_take hb))
    rw [List.getD_eq_getElem?_getD, List.getElem?_eq_getElem (by omega)]
    exact hl _ (List.getElem_mem (by omega))
structure St where
  f : Nat → Nat
  gone : Nat
  out : List Nat
def stepE (n : Nat) (s : St) : St :=
  let v := (minTo s.f s.gone n).1.toNat
  { f := joinsTo (mem (andn (s.f v) s.gone)) s.f (mem (andn (s.f v) s.gone)).length, gone := s.gone ||| 2 ^ v, out := s.out ++ [v] }
def runE (f : Nat → Nat) (n : Nat) : Nat → St
  | 0 => ⟨f, 0, []⟩
  | r + 1 => stepE n (runE f n r)
def extF (f : Nat → Nat) (n : Nat) : Nat → Nat := (runE f n n).f

theorem runE_pick0 (n r : Nat) (s : St) (hr : r < n) (h1 : s.out.length = r) (h2 : ∀ i, s.gone.testBit i = true ↔ i ∈ s.out) : ∃ v : Nat, (minTo s.f s.gone n).1 = v ∧ v < n ∧ s.gone.testBit v = false ∧ ∀ i, i < n → s.gone.testBit i = false → pc (andn (s.f v) s.gone) ≤ pc (andn (s.f i) s.gone) := by
  obtain ⟨i, hi, hm⟩ := pigeon n s.out (by omega)
  rcases minTo_found s.f s.gone n with ⟨_, h⟩ | ⟨v, a, b, c, _, d⟩
  · exact absurd ((h2 i).1 (h i hi)) hm
  · exact ⟨v, a, b, c, d⟩
theorem runE_inv (f : Nat → Nat) (hf : Bd f) (n : Nat) (hn : n ≤ 64) : ∀ r, r ≤ n → (runE f n r).out.length = r ∧ (∀ i, (runE f n r).gone.testBit i = true ↔ i ∈ (runE f n r).out) ∧ (∀ i ∈ (runE f n r).out, i < n) ∧ (runE f n r).out.Nodup ∧ Bd (runE f n r).f
  | 0, _ => ⟨rfl, by simp [runE], by simp [runE], by simp [runE], hf⟩
  | r + 1, h => by
    obtain ⟨h1, h2, h3, h4, h5⟩ := runE_inv f hf n hn r (by omega)
    obtain ⟨v, hv, hvn, hvb, _⟩ := runE_pick0 n r (runE f n r) (by omega) h1 h2
    have hvm : v ∉ (runE f n r).out := fun h => by rw [(h2 v).2 h] at hvb; cases hvb
    simp only [runE, stepE, hv, Int.toNat_natCast]
    refine ⟨by simp [h1], fun i => ?_, fun i hi => ?_, ?_, joinsTo_bd h5 (fun b hb => mem_lt hb) _ (Nat.le_refl _)⟩
    · rw [Nat.testBit_or, Nat.testBit_two_pow, List.mem_append, List.mem_singleton, Bool.or_eq_true, h2 i, decide_eq_true_eq]
      constructor <;> rintro (h | h) <;> first | exact .inl h | exact .inr h.symm
    · rcases List.mem_append.1 hi with hi | hi
      · exact h3 i hi
      · rw [List.mem_singleton.1 hi]; exact hvn
    · rw [List.nodup_append]
      exact ⟨h4, by simp, fun a ha b hb => by rw [List.mem_singleton.1 hb]; exact fun e => hvm (e ▸ ha)⟩
theorem runE_lt (f : Nat → Nat) (hf : Bd f) (n : Nat) (hn : n ≤ 64) (r : Nat) (h : r ≤ n) : (runE f n r).gone < 18446744073709551616 := by
  apply Nat.lt_pow_two_of_testBit (n := 64)
  intro i hi
  obtain ⟨_, h2, h3, _⟩ := runE_inv f hf n hn r h
  rw [← Bool.not_eq_true, h2 i]
  intro hm
  have := h3 i hm
  omega
/-- What reading gives is bounded. -/
theorem joins_bd (n : Int) (hn : n ≤ 64) : ∀ (l : List (Int × Int)) (p : Option (Int × Int)) (f : Nat → Nat), Bd f → okList n p l = true → Bd (joins f l)
  | [], _, f, h, _ => h
  | e :: l, p, f, h, ho => by
    rw [okList, Bool.and_eq_true] at ho
    have h1 := ho.1
    simp only [okE, Bool.and_eq_true, decide_eq_true_eq] at h1
    exact joins_bd n hn l _ _ (join_bd h (by omega) (by omega)) ho.2
theorem f0_bd : Bd f0 := fun _ _ => (by decide : (0 : Nat) < 18446744073709551616)
theorem okG_bd {n : Int} {E : List (Int × Int)} (h : okG n E = true) : 0 ≤ n ∧ n ≤ 64 ∧ Bd (joins f0 E) := by
  simp only [okG, Bool.and_eq_true, decide_eq_true_eq] at h
  exact ⟨h.1.1, h.1.2, joins_bd n h.1.2 E none f0 f0_bd h.2⟩
end Go.Proofs.YtkkfoonaobehaaaDoor.Ext
