import Derived.Test.YtkkfoonaobehaaaDoorTri
import Derived.Test.YtkkfoonaobehaaaDoorChC
namespace Go.Proofs.YtkkfoonaobehaaaDoor.ChE
open Go.Proofs.YtkkfoonaobehaaaDoor.Bits Go.Proofs.YtkkfoonaobehaaaDoor.Search Go.Proofs.YtkkfoonaobehaaaDoor.Earl Go.Proofs.YtkkfoonaobehaaaDoor.GrP Go.Proofs.YtkkfoonaobehaaaDoor.ChA Go.Proofs.YtkkfoonaobehaaaDoor.ChB Go.Proofs.YtkkfoonaobehaaaDoor.ChC Go.Proofs.YtkkfoonaobehaaaDoor.Tri
set_option linter.unusedVariables false
set_option linter.unusedSimpArgs false
section
variable (f : Nat → Nat) (n : Nat)
theorem findTo_neg (d : Nat) : ∀ k, findTo f n d k < 0 ↔ ∀ i, i < k → ¬ (d.testBit i = false ∧ Simp f n d i)
  | 0 => by simp [findTo]
  | k + 1 => by
    have ih := findTo_neg d k
    rw [findTo]
    by_cases h : findTo f n d k < 0
    · rw [if_pos h]
      by_cases hk : d.testBit k = false ∧ simpB f n d k = true
      · rw [if_pos hk]
        constructor
        · intro q; omega
        · intro q
          exact absurd ⟨hk.1, (simpB_iff f n d k).1 hk.2⟩ (q k (by omega))
      · rw [if_neg hk]
        constructor
        · intro _ i hi
          by_cases e : i = k
          · subst e
            exact fun q => hk ⟨q.1, (simpB_iff f n d i).2 q.2⟩
          · exact ih.1 h i (by omega)
        · intro _; omega
    · rw [if_neg h]
      constructor
      · intro q; exact absurd q h
      · intro q
        exact absurd (ih.2 fun i hi => q i (by omega)) h
theorem findTo_pos (d : Nat) : ∀ k, ¬ findTo f n d k < 0 → ∃ v : Nat, findTo f n d k = v ∧ v < k ∧ d.testBit v = false ∧ Simp f n d v
  | 0, h => by simp [findTo] at h
  | k + 1, h => by
    rw [findTo] at h ⊢
    by_cases hk : findTo f n d k < 0
    · rw [if_pos hk] at h ⊢
      by_cases hc : d.testBit k = false ∧ simpB f n d k = true
      · rw [if_pos hc]
        exact ⟨k, rfl, by omega, hc.1, (simpB_iff f n d k).1 hc.2⟩
      · rw [if_neg hc] at h
        omega
    · rw [if_neg hk]
      obtain ⟨v, h1, h2, h3⟩ := findTo_pos d k hk
      exact ⟨v, h1, by omega, h3⟩
/-- The removals: what is gone, and in which order. -/
noncomputable def rem : Nat → Nat × List Nat
  | 0 => (0, [])
  | r + 1 => ((rem r).1 ||| 2 ^ (findTo f n (rem r).1 n).toNat, (rem r).2 ++ [(findTo f n (rem r).1 n).toNat])
/-- The first r removals could be made. -/
def Can (r : Nat) : Prop := ∀ k, k < r → ¬ findTo f n (rem f n k).1 n < 0
structure RInv (r : Nat) : Prop where
  len : (rem f n r).2.length = r
  bit : ∀ i, (rem f n r).1.testBit i = true ↔ i ∈ (rem f n r).2
  lt : ∀ i ∈ (rem f n r).2, i < n
  nd : (rem f n r).2.Nodup
theorem rinv : ∀ r, Can f n r → RInv f n r
  | 0, _ => ⟨rfl, by simp [rem], by simp [rem], by simp [rem]⟩
  | r + 1, h => by
    have ih := rinv r (fun k hk => h k (by omega))
    obtain ⟨v, hv, hvn, hvd, _⟩ := findTo_pos f n (rem f n r).1 n (h r (by omega))
    have hvm : v ∉ (rem f n r).2 := fun q => by rw [(ih.bit v).2 q] at hvd; cases hvd
    have e : rem f n (r + 1) = ((rem f n r).1 ||| 2 ^ v, (rem f n r).2 ++ [v]) := by rw [rem, hv, Int.toNat_natCast]
    refine ⟨by rw [e]; simp [ih.len], fun i => ?_, fun i hi => ?_, ?_⟩
    · rw [e]
      simp only [Nat.testBit_or, Bool.or_eq_true, bit_pow, List.mem_append, List.mem_singleton, ih.bit i]
    · rw [e] at hi
      rcases List.mem_append.1 hi with q | q
      · exact ih.lt i q
      · rw [List.mem_singleton.1 q]; exact hvn
    · rw [e]
      show ((rem f n r).2 ++ [v]).Nodup
      rw [List.nodup_append]
      exact ⟨ih.nd, by simp, fun a ha b hb => by rw [List.mem_singleton.1 hb]; exact fun z => hvm (z ▸ ha)⟩
theorem rem_take : ∀ d r, Can f n (r + d) → (rem f n (r + d)).2.take r = (rem f n r).2
  | 0, r, h => by rw [Nat.add_zero, List.take_of_length_le (by rw [(rinv f n r h).len]; exact Nat.le_refl _)]
  | d + 1, r, h => by
    have e : r + (d + 1) = (r + d) + 1 := by omega
    have h' : Can f n (r + d) := fun k hk => h k (by omega)
    rw [e, rem, List.take_append_of_le_length (by rw [(rinv f n (r + d) h').len]; omega)]
    exact rem_take d r h'
theorem rem_take' {r : Nat} (h : Can f n n) (hr : r ≤ n) : (rem f n n).2.take r = (rem f n r).2 := by
  have := rem_take f n (n - r) r (by rw [show r + (n - r) = n by omega]; exact h)
  rwa [show r + (n - r) = n by omega] at this
/-- The r-th removal. -/
theorem rem_get {r : Nat} (h : Can f n n) (hr : r < n) : ∃ v : Nat, findTo f n (rem f n r).1 n = v ∧ v < n ∧ (rem f n r).1.testBit v = false ∧ Simp f n (rem f n r).1 v ∧ (rem f n n).2.getD r 0 = v := by
  obtain ⟨v, h1, h2, h3, h4⟩ := findTo_pos f n (rem f n r).1 n (h r hr)
  refine ⟨v, h1, h2, h3, h4, ?_⟩
  have e : (rem f n n).2.take (r + 1) = (rem f n r).2 ++ [v] := by
    rw [rem_take' f n h (by omega), rem, h1, Int.toNat_natCast]
  have hl : (rem f n n).2.length = n := (rinv f n n h).len
  have e2 : ((rem f n n).2.take (r + 1))[r]? = some v := by
    rw [e, List.getElem?_append_right (by rw [(rinv f n r (fun k hk => h k (by omega))).len]; exact Nat.le_refl _), (rinv f n r (fun k hk => h k (by omega))).len]
    simp
  rw [List.getElem?_take_of_lt (by omega)] at e2
  rw [List.getD_eq_getElem?_getD, e2]
  rfl
theorem triT_iff : ∀ k r, r + k = n → Can f n r → (triT f n k (rem f n r).1 = true ↔ Can f n n)
  | 0, r, h, hc => by
    obtain rfl : r = n := by omega
    simp [triT, hc]
  | k + 1, r, h, hc => by
    rw [triT]
    by_cases q : findTo f n (rem f n r).1 n < 0
    · rw [if_pos q]
      simp only [Bool.false_eq_true, false_iff]
      intro hall
      exact hall r (by omega) q
    · rw [if_neg q]
      have := triT_iff k (r + 1) (by omega) (fun j hj => by
        by_cases e : j = r
        · subst e; exact q
        · exact hc j (by omega))
      rw [← this]
      rfl
end
section
variable {f : Nat → Nat} {n : Nat}
theorem can_of_perf (hn : n ≤ 64) (g : Gr n f) {q : Nat → Nat} (hq : Inj (Vn n) q) (hp : Perf (Vn n) (Ad f) q) : ∀ r, r ≤ n → Can f n r
  | 0, _ => fun k hk => by omega
  | r + 1, h => by
    have ih := can_of_perf hn g hq hp r (by omega)
    intro k hk
    by_cases e : k = r
    · subst e
      intro hneg
      rw [findTo_neg] at hneg
      have hi := rinv f n k ih
      obtain ⟨x, hx, hxm⟩ := pigeon n (rem f n k).2 (by rw [hi.len]; omega)
      obtain ⟨v, hv, hvm, hmax⟩ := lastOf (fun i => i ∉ (rem f n k).2) q n ⟨x, hx, hxm⟩
      have hbit : ∀ i, (rem f n k).1.testBit i = false ↔ i ∉ (rem f n k).2 := by
        intro i
        rw [← hi.bit i, Bool.not_eq_true]
      refine hneg v hv ⟨(hbit v).2 hvm, fun a ha b hb h1 h2 h3 h4 => ?_⟩
      have am := (hbit a).1 h1
      have bm := (hbit b).1 h2
      have hav : q a < q v := by
        have h5 := hmax a ha am
        have h6 : q a ≠ q v := fun e => g.ne v a h3 (hq a v ha hv e).symm
        omega
      have hbv : q b < q v := by
        have h5 := hmax b (by omega) bm
        have h6 : q b ≠ q v := fun e => g.ne v b h4 (hq b v (show b < n by omega) hv e).symm
        omega
      exact hp v a b hv ha (show b < n by omega) h3 h4 hav hbv (by omega)
    · exact ih k (by omega)
theorem rem_ord (h : Can f n n) : Ord n (rem f n n).2 := ⟨(rinv f n n h).len, (rinv f n n h).lt, (rinv f n n h).nd⟩
/-- The number of a vertex by the removals: the last removed is the least. -/
noncomputable def rpos (f : Nat → Nat) (n v : Nat) : Nat := n - pos (rem f n n).2 v
theorem rpos_inj (h : Can f n n) : Inj (Vn n) (rpos f n) := by
  intro a b ha hb e
  have ho := rem_ord h
  have h1 := ho.pos_lt ha
  have h2 := ho.pos_lt hb
  rw [ho.len] at h1 h2
  unfold rpos at e
  exact ho.inj a b ha hb (by omega)
theorem gone_iff (h : Can f n n) {r v : Nat} (hr : r ≤ n) (hv : v < n) : (rem f n r).1.testBit v = true ↔ pos (rem f n n).2 v < r := by
  rw [(rinv f n r (fun k hk => h k (by omega))).bit v, ← rem_take' f n h hr, (rem_ord h).take hv]
theorem rpos_perf (hn : n ≤ 64) (g : Gr n f) (h : Can f n n) : Perf (Vn n) (Ad f) (rpos f n) := by
  intro u a b hu ha hb hua hub hpa hpb hab
  have ho := rem_ord h
  have h1 := ho.pos_lt hu
  have h2 := ho.pos_lt ha
  have h3 := ho.pos_lt hb
  rw [ho.len] at h1 h2 h3
  unfold rpos at hpa hpb
  obtain ⟨v, _, hvn, _, hs, hg⟩ := rem_get f n h h1
  have huv : v = u := by
    rw [← hg, List.getD_eq_getElem?_getD, List.getElem?_eq_getElem (ho.pos_lt hu)]
    exact ho.get_pos hu
  subst huv
  have na : (rem f n (pos (rem f n n).2 v)).1.testBit a = false := by
    rw [← Bool.not_eq_true, gone_iff h (by omega) ha]; omega
  have nb : (rem f n (pos (rem f n n).2 v)).1.testBit b = false := by
    rw [← Bool.not_eq_true, gone_iff h (by omega) hb]; omega
  by_cases hlt : b < a
  · exact hs a ha b hlt na nb hua hub
  · exact g.sy b a (hs b hb a (by omega) nb na hub hua)
theorem can_iff (hn : n ≤ 64) (g : Gr n f) : Can f n n ↔ ∃ q, Inj (Vn n) q ∧ Perf (Vn n) (Ad f) q :=
  ⟨fun h => ⟨_, rpos_inj h, rpos_perf hn g h⟩, fun ⟨q, h1, h2⟩ => can_of_perf hn g h1 h2 n (Nat.le_refl _)⟩
theorem tri_eq (hn : n ≤ 64) (g : Gr n f) : triT f n n 0 = (earl f (searchL f n) 0 []).isSome := by
  rw [Bool.eq_iff_iff, chord_iff hn g, ← can_iff hn g]
  exact triT_iff f n n 0 (by omega) (fun k hk => by omega)
end
end Go.Proofs.YtkkfoonaobehaaaDoor.ChE
