/- Plain laws about the bits of 64-bit words: members of a set, its count, and the sum that math/bits.OnesCount64 reckons. No program in sight. -/
import Derived.Lib.TrailingZeros
namespace Go.Proofs.YtkkfoonaobehaaaDoor.Bits
open Go

/-- The elements of a set of numbers below 64. -/
def mem (u : Nat) : List Nat := (List.range 64).filter u.testBit
def pc (u : Nat) : Nat := (mem u).length

theorem mem_mem {u i : Nat} : i ∈ mem u ↔ i < 64 ∧ u.testBit i = true := by simp [mem]
theorem mem_lt {u i : Nat} (h : i ∈ mem u) : i < 64 := (mem_mem.1 h).1
theorem mem_sorted (u : Nat) : (mem u).Pairwise (· < ·) := List.Pairwise.filter _ List.pairwise_lt_range
theorem pc_le (u : Nat) : pc u ≤ 64 := by
  have := List.length_filter_le u.testBit (List.range 64)
  simpa [pc, mem] using this
theorem mem_zero : mem 0 = [] := by simp [mem]

/-! ### masks by bytes -/
def mask (m : Nat) : Nat → Nat
  | 0 => 0
  | k + 1 => 256 * mask m k + m
theorem and_byte (a b c d : Nat) (hb : b < 256) (hd : d < 256) : (256 * a + b) &&& (256 * c + d) = 256 * (a &&& c) + (b &&& d) := by
  have h1 : ((256 * a + b) &&& (256 * c + d)) / 2 ^ 8 = (256 * a + b) / 2 ^ 8 &&& (256 * c + d) / 2 ^ 8 := Nat.and_div_two_pow
  have h2 : ((256 * a + b) &&& (256 * c + d)) % 2 ^ 8 = (256 * a + b) % 2 ^ 8 &&& (256 * c + d) % 2 ^ 8 := Nat.and_mod_two_pow
  have e1 : (256 * a + b) / 2 ^ 8 = a := by omega
  have e2 : (256 * c + d) / 2 ^ 8 = c := by omega
  have e3 : (256 * a + b) % 2 ^ 8 = b := by omega
  have e4 : (256 * c + d) % 2 ^ 8 = d := by omega
  rw [e1, e2] at h1
  rw [e3, e4] at h2
  omega

def g1 (b : Nat) : Nat := (b / 2 &&& 85) + (b &&& 85)
def g2 (b : Nat) : Nat := (b / 4 &&& 51) + (b &&& 51)
def g3 (b : Nat) : Nat := (b / 16 + b) % 16
/-- A function at every byte. -/
def bytes (f : Nat → Nat) : Nat → Nat → Nat
  | 0, _ => 0
  | k + 1, x => 256 * bytes f k (x / 256) + f (x % 256)

theorem step1 (k : Nat) : ∀ x, x < 256 ^ k → (x / 2 &&& mask 85 k) + (x &&& mask 85 k) = bytes g1 k x := by
  induction k with
  | zero => intro x h; simp [mask, bytes]
  | succ k ih =>
    intro x h
    have hq : x / 256 < 256 ^ k := by rw [Nat.pow_succ] at h; omega
    have hi := ih (x / 256) hq
    have e : x = 256 * (x / 256) + x % 256 := by omega
    have e2 : x / 2 = 256 * (x / 256 / 2) + (128 * (x / 256 % 2) + x % 256 / 2) := by omega
    generalize x / 256 = q at *
    have hb : x % 256 < 256 := by omega
    generalize x % 256 = b at *
    have f1 : (x / 2 &&& mask 85 (k + 1)) = 256 * (q / 2 &&& mask 85 k) + (128 * (q % 2) + b / 2 &&& 85) := by rw [e2]; exact and_byte _ _ _ _ (by omega) (by omega)
    have f2 : (x &&& mask 85 (k + 1)) = 256 * (q &&& mask 85 k) + (b &&& 85) := by rw [e]; exact and_byte _ _ _ _ (by omega) (by omega)
    have f3 : ∀ b, b < 256 → ∀ c, c < 2 → (128 * c + b / 2 &&& 85) = (b / 2 &&& 85) := by decide +kernel
    have f4 := f3 b hb (q % 2) (by omega)
    rw [f1, f2, f4]
    simp only [bytes, g1]
    have e5 : x / 256 = q := by omega
    have e6 : x % 256 = b := by omega
    rw [e5, e6]
    omega

theorem step2 (k : Nat) : ∀ x, x < 256 ^ k → (x / 4 &&& mask 51 k) + (x &&& mask 51 k) = bytes g2 k x := by
  induction k with
  | zero => intro x h; simp [mask, bytes]
  | succ k ih =>
    intro x h
    have hq : x / 256 < 256 ^ k := by rw [Nat.pow_succ] at h; omega
    have hi := ih (x / 256) hq
    have e : x = 256 * (x / 256) + x % 256 := by omega
    have e2 : x / 4 = 256 * (x / 256 / 4) + (64 * (x / 256 % 4) + x % 256 / 4) := by omega
    generalize x / 256 = q at *
    have hb : x % 256 < 256 := by omega
    generalize x % 256 = b at *
    have f1 : (x / 4 &&& mask 51 (k + 1)) = 256 * (q / 4 &&& mask 51 k) + (64 * (q % 4) + b / 4 &&& 51) := by rw [e2]; exact and_byte _ _ _ _ (by omega) (by omega)
    have f2 : (x &&& mask 51 (k + 1)) = 256 * (q &&& mask 51 k) + (b &&& 51) := by rw [e]; exact and_byte _ _ _ _ (by omega) (by omega)
    have f3 : ∀ b, b < 256 → ∀ c, c < 4 → (64 * c + b / 4 &&& 51) = (b / 4 &&& 51) := by decide +kernel
    have f4 := f3 b hb (q % 4) (by omega)
    rw [f1, f2, f4]
    simp only [bytes, g2]
    have e5 : x / 256 = q := by omega
    have e6 : x % 256 = b := by omega
    rw [e5, e6]
    omega

theorem bytes_lt (f : Nat → Nat) (hf : ∀ b, b < 256 → f b < 256) (k : Nat) : ∀ x, bytes f k x < 256 ^ k := by
  induction k with
  | zero => intro x; simp [bytes]
  | succ k ih => intro x; have := ih (x / 256); have := hf (x % 256) (by omega); rw [Nat.pow_succ]; simp only [bytes]; omega
theorem bytes_comp (f g : Nat → Nat) (hg : ∀ b, b < 256 → g b < 256) (k : Nat) : ∀ x, bytes f k (bytes g k x) = bytes (fun b => f (g b)) k x := by
  induction k with
  | zero => intro x; simp [bytes]
  | succ k ih =>
    intro x
    have := hg (x % 256) (by omega)
    simp only [bytes]
    have e1 : (256 * bytes g k (x / 256) + g (x % 256)) / 256 = bytes g k (x / 256) := by omega
    have e2 : (256 * bytes g k (x / 256) + g (x % 256)) % 256 = g (x % 256) := by omega
    rw [e1, e2, ih]

/-- The third step, where every half byte is at most 4. -/
theorem step3 (f : Nat → Nat) (hf : ∀ b, b < 256 → f b < 256 ∧ f b % 16 ≤ 4 ∧ f b / 16 ≤ 4) (k : Nat) : ∀ x, bytes f k x / 16 + bytes f k x < 256 ^ k ∧ (bytes f k x / 16 + bytes f k x) &&& mask 15 k = bytes (fun b => g3 (f b)) k x := by
  induction k with
  | zero => intro x; simp [bytes, mask]
  | succ k ih =>
    intro x
    obtain ⟨i1, i2⟩ := ih (x / 256)
    have h16 : bytes f k (x / 256) % 16 ≤ 4 := by
      cases k with
      | zero => simp [bytes]
      | succ k => simp only [bytes]; have := hf (x / 256 % 256) (by omega); omega
    obtain ⟨a1, a2, a3⟩ := hf (x % 256) (by omega)
    simp only [bytes]
    generalize bytes f k (x / 256) = q at *
    generalize f (x % 256) = b at *
    have e : (256 * q + b) / 16 + (256 * q + b) = 256 * (q / 16 + q) + (16 * (q % 16) + b / 16 + b) := by omega
    have hs : 16 * (q % 16) + b / 16 + b < 256 := by omega
    rw [e]
    refine ⟨by rw [Nat.pow_succ]; omega, ?_⟩
    show (256 * (q / 16 + q) + (16 * (q % 16) + b / 16 + b)) &&& (256 * mask 15 k + 15) = _
    rw [and_byte _ _ _ _ hs (by omega), i2]
    have : (16 * (q % 16) + b / 16 + b) &&& 15 = g3 b := by
      have := @Nat.and_two_pow_sub_one_eq_mod (16 * (q % 16) + b / 16 + b) 4
      simp only [show (2:Nat)^4 - 1 = 15 from rfl] at this
      rw [this]; unfold g3; omega
    rw [this]

def pb (b : Nat) : Nat := ((List.range 8).filter b.testBit).length
theorem pb_le (b : Nat) : pb b ≤ 8 := by
  have := List.length_filter_le b.testBit (List.range 8)
  simpa [pb] using this
theorem g321 : ∀ b, b < 256 → g3 (g2 (g1 b)) = pb b := by decide +kernel
theorem g21 : ∀ b, b < 256 → g2 (g1 b) < 256 ∧ g2 (g1 b) % 16 ≤ 4 ∧ g2 (g1 b) / 16 ≤ 4 := by decide +kernel
theorem g1_lt : ∀ b, b < 256 → g1 b < 256 := by decide +kernel
theorem bytes_congr (f g : Nat → Nat) (h : ∀ b, b < 256 → f b = g b) (k : Nat) : ∀ x, bytes f k x = bytes g k x := by
  induction k with
  | zero => intro x; rfl
  | succ k ih => intro x; simp only [bytes]; rw [ih, h _ (by omega)]

/-- The count by bytes. -/
theorem filt_shift (x n : Nat) : ((List.range n).filter (fun i => x.testBit (8 + i))).length = ((List.range n).filter (x / 256).testBit).length := by
  congr 2
  funext i
  have : x / 256 = x >>> 8 := by rw [Nat.shiftRight_eq_div_pow]
  rw [this, Nat.testBit_shiftRight]
theorem pc_bytes (x n : Nat) : ((List.range (8 + n)).filter x.testBit).length = pb (x % 256) + ((List.range n).filter (x / 256).testBit).length := by
  rw [List.range_add, List.filter_append, List.length_append, List.filter_map, List.length_map, ← filt_shift]
  congr 1
  unfold pb
  congr 1
  apply List.filter_congr
  intro i hi
  rw [show (256 : Nat) = 2 ^ 8 from rfl, Nat.testBit_mod_two_pow]
  simp at hi
  simp [hi]

def sumb : Nat → Nat → Nat
  | 0, _ => 0
  | k + 1, x => pb (x % 256) + sumb k (x / 256)
theorem pc_sum (k : Nat) : ∀ x, ((List.range (8 * k)).filter x.testBit).length = sumb k x := by
  induction k with
  | zero => intro x; simp [sumb]
  | succ k ih => intro x; rw [show 8 * (k + 1) = 8 + 8 * k by omega, pc_bytes, ih]; rfl
theorem fin_a (x a1 a2 a3 c0 c1 c2 : Nat) (e0 : x = 256 * a1 + c0) (e1 : a1 = 256 * a2 + c1) (e2 : a2 = 256 * a3 + c2) : x + a1 = 65536 * (a2 + a3) + (256 * (c1 + c2) + (c0 + c1)) := by omega
theorem fin_b (b2 b4 b6 s0 s2 s4 z y : Nat) (hy : y = 65536 * b2 + s0) (h2 : b2 = 65536 * b4 + s2) (h4 : b4 = 65536 * b6 + s4) (hz : z = y + b2) : z = 4294967296 * (b4 + b6) + (65536 * (s2 + s4) + (s0 + s2)) := by omega
theorem fin_l (c0 c1 c2 c3 c4 c5 c6 c7 : Nat) (h0 : c0 ≤ 8) (h1 : c1 ≤ 8) (h2 : c2 ≤ 8) (h3 : c3 ≤ 8) (h4 : c4 ≤ 8) (h5 : c5 ≤ 8) (h6 : c6 ≤ 8) (h7 : c7 ≤ 8) : c0 + (c1 + (c2 + (c3 + (c4 + (c5 + (c6 + (c7 + 0))))))) < 128 := by omega
theorem fin_d1 (d t z : Nat) (h : t < 4294967296) (p0 : z = 4294967296 * d + t) : z / 4294967296 = d := by omega
theorem fin_d2 (d t z : Nat) (hd : d ≤ 135400000) (h : t < 4294967296) (p0 : z = 4294967296 * d + t) : (z + d) % 18446744073709551616 = z + d := Nat.mod_eq_of_lt (by omega)
theorem fin_d3 (s0 s2 s4 : Nat) (u0 : s0 ≤ 5000) (u2 : s2 ≤ 5000) (u4 : s4 ≤ 5000) : 65536 * (s2 + s4) + (s0 + s2) < 4294967296 := by omega
theorem fin_d (b4 b6 s0 s2 s4 z : Nat) (m4 : b4 ≤ 135300000) (m6 : b6 ≤ 2064) (u0 : s0 ≤ 5000) (u2 : s2 ≤ 5000) (u4 : s4 ≤ 5000) (p0 : z = 4294967296 * (b4 + b6) + (65536 * (s2 + s4) + (s0 + s2))) :
    z / 4294967296 = b4 + b6 ∧ (z + (b4 + b6)) % 18446744073709551616 = z + (b4 + b6) :=
  ⟨fin_d1 _ _ _ (fin_d3 s0 s2 s4 u0 u2 u4) p0, fin_d2 _ _ _ (by omega) (fin_d3 s0 s2 s4 u0 u2 u4) p0⟩
theorem fin_e (b2 y s0 : Nat) (u : s0 ≤ 5000) (h : y = 65536 * b2 + s0) : y / 65536 = b2 := by omega
theorem fin_c (c0 c1 c2 c3 c4 c5 c6 c7 s0 s2 s4 b6 d z : Nat) (e0 : s0 = 256 * (c1 + c2) + (c0 + c1)) (e2 : s2 = 256 * (c3 + c4) + (c2 + c3)) (e4 : s4 = 256 * (c5 + c6) + (c4 + c5)) (e6 : b6 = 256 * c7 + (c6 + c7)) (hz : z = 4294967296 * d + (65536 * (s2 + s4) + (s0 + s2)))
    (hd : d = 65536 * b6 + s4 + b6) (hl : c0 + (c1 + (c2 + (c3 + (c4 + (c5 + (c6 + (c7 + 0))))))) < 128) : (z + d) % 128 = c0 + (c1 + (c2 + (c3 + (c4 + (c5 + (c6 + (c7 + 0))))))) := by omega
theorem fin_sum (c0 c1 c2 c3 c4 c5 c6 c7 : Nat) (h0 : c0 ≤ 8) (h1 : c1 ≤ 8) (h2 : c2 ≤ 8) (h3 : c3 ≤ 8) (h4 : c4 ≤ 8) (h5 : c5 ≤ 8) (h6 : c6 ≤ 8) (h7 : c7 ≤ 8) (x y z : Nat)
    (hx : x = 256 * (256 * (256 * (256 * (256 * (256 * (256 * (256 * 0 + c7) + c6) + c5) + c4) + c3) + c2) + c1) + c0)
    (hy : y = (x + x / 256) % 18446744073709551616) (hz : z = (y + y / 65536) % 18446744073709551616) : (z + z / 4294967296) % 18446744073709551616 % 128 = c0 + (c1 + (c2 + (c3 + (c4 + (c5 + (c6 + (c7 + 0))))))) := by
  obtain ⟨a7, e7⟩ : ∃ a, a = 256 * 0 + c7 := ⟨_, rfl⟩
  obtain ⟨a6, e6⟩ : ∃ a, a = 256 * a7 + c6 := ⟨_, rfl⟩
  obtain ⟨a5, e5⟩ : ∃ a, a = 256 * a6 + c5 := ⟨_, rfl⟩
  obtain ⟨a4, e4⟩ : ∃ a, a = 256 * a5 + c4 := ⟨_, rfl⟩
  obtain ⟨a3, e3⟩ : ∃ a, a = 256 * a4 + c3 := ⟨_, rfl⟩
  obtain ⟨a2, e2⟩ : ∃ a, a = 256 * a3 + c2 := ⟨_, rfl⟩
  obtain ⟨a1, e1⟩ : ∃ a, a = 256 * a2 + c1 := ⟨_, rfl⟩
  rw [← e7, ← e6, ← e5, ← e4, ← e3, ← e2, ← e1] at hx
  have l7 : a7 ≤ 8 := by clear hy hz hx; omega
  have l6 : a6 ≤ 2056 := by clear hy hz hx; omega
  have l5 : a5 ≤ 526344 := by clear hy hz hx e7 e6; omega
  have l4 : a4 ≤ 134744072 := by clear hy hz hx e7 e6 e5; omega
  have l3 : a3 ≤ 34494482440 := by clear hy hz hx e7 e6 e5 e4; omega
  have l2 : a2 ≤ 8830587504648 := by clear hy hz hx e7 e6 e5 e4 e3; omega
  have l1 : a1 ≤ 2260630401189896 := by clear hy hz hx e7 e6 e5 e4 e3 e2; omega
  have l0 : x ≤ 578721382704613384 := by clear hy hz e7 e6 e5 e4 e3 e2 e1; omega
  have q1 : x / 256 = a1 := by clear hy hz e7 e6 e5 e4 e3 e2 e1; omega
  rw [q1] at hy
  have k0 : y = x + a1 := by rw [hy]; exact Nat.mod_eq_of_lt (by omega)
  have g0 := fin_a x a1 a2 a3 c0 c1 c2 hx e1 e2
  have g2 := fin_a a2 a3 a4 a5 c2 c3 c4 e2 e3 e4
  have g4 := fin_a a4 a5 a6 a7 c4 c5 c6 e4 e5 e6
  have g6 : a6 + a7 = 256 * c7 + (c6 + c7) := by clear hy hz hx g0 g2 g4; omega
  rw [← k0] at g0
  obtain ⟨s0, t0⟩ : ∃ s, s = 256 * (c1 + c2) + (c0 + c1) := ⟨_, rfl⟩
  obtain ⟨s2, t2⟩ : ∃ s, s = 256 * (c3 + c4) + (c2 + c3) := ⟨_, rfl⟩
  obtain ⟨s4, t4⟩ : ∃ s, s = 256 * (c5 + c6) + (c4 + c5) := ⟨_, rfl⟩
  have u0 : s0 ≤ 5000 := by clear hy hz hx g0 g2 g4 g6; omega
  have u2 : s2 ≤ 5000 := by clear hy hz hx g0 g2 g4 g6; omega
  have u4 : s4 ≤ 5000 := by clear hy hz hx g0 g2 g4 g6; omega
  rw [← t0] at g0
  rw [← t2] at g2
  rw [← t4] at g4
  have m2 : a2 + a3 ≤ 8865349896080 + 99999999 := by clear hy hz hx g0 g2 g4 g6 e7 e6 e5 e4 e3 e2 e1; omega
  have m6 : a6 + a7 ≤ 2064 := by clear hy hz hx g0 g2 g4 e7 e6 e5 e4 e3 e2 e1; omega
  have m4 : a4 + a5 ≤ 135300000 := by clear hy hz hx g0 g2 g4 g6 e7 e6 e5 e4 e3 e2 e1; omega
  generalize a2 + a3 = b2 at *
  generalize a4 + a5 = b4 at *
  generalize a6 + a7 = b6 at *
  have q2 := fin_e b2 y s0 u0 g0
  rw [q2] at hz
  have n0 : z = y + b2 := by rw [hz]; exact Nat.mod_eq_of_lt (by clear hz hy e7 e6 e5 e4 e3 e2 e1 t0 t2 t4 hx g0 g2 g4 g6 q2; omega)
  have p0 := fin_b b2 b4 b6 s0 s2 s4 z y g0 g2 g4 n0
  obtain ⟨q4, q5⟩ := fin_d b4 b6 s0 s2 s4 z m4 m6 u0 u2 u4 p0
  rw [q4, q5]
  have r := fin_c c0 c1 c2 c3 c4 c5 c6 c7 s0 s2 s4 b6 (b4 + b6) z t0 t2 t4 g6 p0 (by rw [g4]) (fin_l c0 c1 c2 c3 c4 c5 c6 c7 h0 h1 h2 h3 h4 h5 h6 h7)
  exact r

/-- What OnesCount64 reckons. -/
theorem count (u x1 x2 x3 y z : Nat) (h : u < 18446744073709551616) (h1 : x1 = (u / 2 &&& 6148914691236517205) + (u &&& 6148914691236517205)) (h2 : x2 = (x1 / 4 &&& 3689348814741910323) + (x1 &&& 3689348814741910323))
    (h3 : x3 = (x2 / 16 + x2) &&& 1085102592571150095) (hy : y = (x3 + x3 / 256) % 18446744073709551616) (hz : z = (y + y / 65536) % 18446744073709551616) :
    x1 < 18446744073709551616 ∧ x2 < 18446744073709551616 ∧ x2 / 16 + x2 < 18446744073709551616 ∧ x3 < 18446744073709551616 ∧ (z + z / 4294967296) % 18446744073709551616 % 128 = pc u := by
  have q : (256 : Nat) ^ 8 = 18446744073709551616 := by decide
  have s1 := step1 8 u (by omega)
  rw [show mask 85 8 = 6148914691236517205 from by decide] at s1
  rw [s1] at h1
  have b1 := bytes_lt g1 g1_lt 8 u
  have s2 := step2 8 x1 (by omega)
  rw [show mask 51 8 = 3689348814741910323 from by decide] at s2
  rw [s2, h1, bytes_comp g2 g1 g1_lt] at h2
  have b2 := bytes_lt (fun b => g2 (g1 b)) (fun b hb => (g21 b hb).1) 8 u
  have s3 := step3 (fun b => g2 (g1 b)) (fun b hb => g21 b hb) 8 u
  rw [show mask 15 8 = 1085102592571150095 from by decide, ← h2] at s3
  rw [s3.2, bytes_congr _ pb g321] at h3
  have b3 := bytes_lt pb (fun b _ => by have := pb_le b; omega) 8 u
  refine ⟨by omega, by omega, by omega, by omega, ?_⟩
  have hs : pc u = sumb 8 u := pc_sum 8 u
  rw [hs]
  exact fin_sum _ _ _ _ _ _ _ _ (pb_le _) (pb_le _) (pb_le _) (pb_le _) (pb_le _) (pb_le _) (pb_le _) (pb_le _) x3 y z h3 hy hz

/-! ### members -/
theorem sorted_ext : ∀ (l l' : List Nat), l.Pairwise (· < ·) → l'.Pairwise (· < ·) → (∀ i, i ∈ l ↔ i ∈ l') → l = l'
  | [], [], _, _, _ => rfl
  | [], b :: l', _, _, h => absurd ((h b).2 List.mem_cons_self) (by simp)
  | a :: l, [], _, _, h => absurd ((h a).1 List.mem_cons_self) (by simp)
  | a :: l, b :: l', hl, hl', h => by
    have h1 := List.pairwise_cons.1 hl
    have h2 := List.pairwise_cons.1 hl'
    have e : a = b := by
      have ha := (h a).1 List.mem_cons_self
      have hb := (h b).2 List.mem_cons_self
      rcases List.mem_cons.1 ha with ha | ha
      · exact ha
      · rcases List.mem_cons.1 hb with hb | hb
        · exact hb.symm
        · have := h1.1 b hb
          have := h2.1 a ha
          omega
    subst e
    congr 1
    refine sorted_ext l l' h1.2 h2.2 fun i => ⟨fun hi => ?_, fun hi => ?_⟩
    · rcases List.mem_cons.1 ((h i).1 (List.mem_cons_of_mem _ hi)) with hi' | hi'
      · have := h1.1 i hi
        omega
      · exact hi'
    · rcases List.mem_cons.1 ((h i).2 (List.mem_cons_of_mem _ hi)) with hi' | hi'
      · have := h2.1 i hi
        omega
      · exact hi'

theorem odd_bit (m i : Nat) : (2 * m + 1).testBit i = (decide (i = 0) || m.testBit (i - 1) && decide (0 < i)) := by
  cases i with
  | zero => simp
  | succ i =>
    rw [Nat.testBit_succ]
    have : (2 * m + 1) / 2 = m := by omega
    rw [this]
    simp
theorem even_bit (m i : Nat) : (2 * m).testBit i = (m.testBit (i - 1) && decide (0 < i)) := by
  cases i with
  | zero => simp
  | succ i =>
    rw [Nat.testBit_succ]
    have : (2 * m) / 2 = m := by omega
    rw [this]
    simp
theorem drop_low (u i : Nat) (h0 : u ≠ 0) (h : u < 18446744073709551616) : (u &&& (u - 1)).testBit i = (u.testBit i && decide (i ≠ Lib.ctz 64 u)) ∧ (i < Lib.ctz 64 u → u.testBit i = false) ∧ u.testBit (Lib.ctz 64 u) = true ∧ Lib.ctz 64 u < 64 := by
  obtain ⟨m, hm, hk⟩ := Lib.ctzFrom_spec 64 u (by omega) (by omega)
  have e : Lib.ctz 64 u = Lib.ctzFrom 64 u := by simp [Lib.ctz, h0]
  rw [e]
  generalize Lib.ctzFrom 64 u = k at *
  have hp : 0 < 2 ^ k := Nat.two_pow_pos k
  have b1 : ∀ i, u.testBit i = if i < k then false else (2 * m + 1).testBit (i - k) := by
    intro i
    have := Nat.testBit_two_pow_mul_add (2 * m + 1) (b := 0) (i := k) hp i
    rw [Nat.add_zero, ← hm] at this
    rw [this]
    simp
  have b2 : ∀ i, (u - 1).testBit i = if i < k then true else (2 * m).testBit (i - k) := by
    intro i
    have h1 : 2 ^ k - 1 < 2 ^ k := by omega
    have := Nat.testBit_two_pow_mul_add (2 * m) (b := 2 ^ k - 1) (i := k) h1 i
    have h2 : 2 ^ k * (2 * m) + (2 ^ k - 1) = u - 1 := by rw [hm, Nat.mul_add]; omega
    rw [h2] at this
    rw [this]
    split
    · rename_i hlt
      rw [Nat.testBit_two_pow_sub_one]
      simp [hlt]
    · rfl
  refine ⟨?_, ?_, ?_, hk⟩
  · rw [Nat.testBit_and, b1, b2]
    by_cases hik : i < k
    · simp [hik]
    · rw [if_neg hik, if_neg hik, odd_bit, even_bit]
      by_cases he : i = k
      · subst he; simp
      · have : 0 < i - k := by omega
        have h2 : ¬ (i - k = 0) := by omega
        simp [this, h2, he]
  · intro hik
    rw [b1, if_pos hik]
  · rw [b1, if_neg (by omega)]
    simp

theorem mem_step (u : Nat) (h0 : u ≠ 0) (h : u < 18446744073709551616) : mem u = Lib.ctz 64 u :: mem (u &&& (u - 1)) := by
  have h1 := fun i => drop_low u i h0 h
  refine sorted_ext _ _ (mem_sorted u) (List.pairwise_cons.2 ⟨fun i hi => ?_, mem_sorted _⟩) fun i => ?_
  · have := (mem_mem.1 hi).2
    rw [(h1 i).1] at this
    simp at this
    have h2 := (h1 i).2.1
    rcases Nat.lt_trichotomy i (Lib.ctz 64 u) with h3 | h3 | h3
    · rw [h2 h3] at this; simp at this
    · exact absurd h3 this.2
    · exact h3
  · rw [List.mem_cons, mem_mem, mem_mem, (h1 i).1]
    have h3 := (h1 i).2.2
    constructor
    · rintro ⟨a, b⟩
      by_cases he : i = Lib.ctz 64 u
      · exact .inl he
      · exact .inr ⟨a, by simp [b, he]⟩
    · rintro (rfl | ⟨a, b⟩)
      · exact ⟨h3.2, h3.1⟩
      · simp at b
        exact ⟨a, b.1⟩
theorem and_pred_lt (u : Nat) (h0 : u ≠ 0) : u &&& (u - 1) < u := by
  have := @Nat.and_le_right u (u - 1)
  omega
theorem mem_nil {u : Nat} (h : u < 18446744073709551616) (hm : mem u = []) : u = 0 := by
  by_cases h0 : u = 0
  · exact h0
  · rw [mem_step u h0 h] at hm
    cases hm
end Go.Proofs.YtkkfoonaobehaaaDoor.Bits
