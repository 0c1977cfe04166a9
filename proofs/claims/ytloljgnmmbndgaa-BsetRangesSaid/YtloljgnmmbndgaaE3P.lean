/-
  HOW MANY BITS: what the program reckons by adding in parallel is the number of bits. Plain laws.
-/
import Derived.Test.YtloljgnmmbndgaaE3V
namespace Go.Den
noncomputable section

/-- Bytes in a row, the lowest first. -/
def cat : List Nat → Nat
  | [] => 0
  | b :: r => b + 256 * cat r

theorem and_step {b m : Nat} (hb : b < 256) (hm : m < 256) (R M : Nat) : (b + 256 * R) &&& (m + 256 * M) = (b &&& m) + 256 * (R &&& M) := by
  have hbm : b &&& m < 2 ^ 8 := Nat.and_lt_two_pow _ hm
  apply Nat.eq_of_testBit_eq
  intro i
  have e1 := Nat.testBit_two_pow_mul_add R (i := 8) (b := b) hb i
  have e2 := Nat.testBit_two_pow_mul_add M (i := 8) (b := m) hm i
  have e3 := Nat.testBit_two_pow_mul_add (R &&& M) (i := 8) (b := b &&& m) hbm i
  rw [show 2 ^ 8 * R + b = b + 256 * R by omega] at e1
  rw [show 2 ^ 8 * M + m = m + 256 * M by omega] at e2
  rw [show 2 ^ 8 * (R &&& M) + (b &&& m) = (b &&& m) + 256 * (R &&& M) by omega] at e3
  rw [Nat.testBit_and, e1, e2, e3]
  by_cases hi : i < 8
  · simp [hi, Nat.testBit_and]
  · simp [hi, Nat.testBit_and]

def rep (m : Nat) : Nat → Nat
  | 0 => 0
  | n + 1 => m + 256 * rep m n

theorem cat_and {m : Nat} (hm : m < 256) : ∀ (l : List Nat), (∀ b ∈ l, b < 256) → cat l &&& rep m l.length = cat (l.map (· &&& m)) := by
  intro l
  induction l with
  | nil => intro _; simp [cat, rep]
  | cons b r ih =>
    intro h
    show (b + 256 * cat r) &&& (m + 256 * rep m r.length) = _
    rw [and_step (h b (by simp)) hm, ih fun x hx => h x (List.mem_cons_of_mem _ hx)]
    rfl

theorem half_dec : ∀ b, b < 256 → ∀ t, t < 2 → ((b / 2 + 128 * t) &&& 85) = (b / 2 &&& 85) := by decide +kernel
theorem quarter_dec : ∀ b, b < 256 → ∀ t, t < 4 → ((b / 4 + 64 * t) &&& 51) = (b / 4 &&& 51) := by decide +kernel

theorem cat_half : ∀ (l : List Nat), (∀ b ∈ l, b < 256) → (cat l / 2) &&& rep 85 l.length = cat (l.map fun b => b / 2 &&& 85) := by
  intro l
  induction l with
  | nil => intro _; rfl
  | cons b r ih =>
    intro h
    have hb := h b (by simp)
    show ((b + 256 * cat r) / 2) &&& (85 + 256 * rep 85 r.length) = _
    have e : (b + 256 * cat r) / 2 = (b / 2 + 128 * (cat r % 2)) + 256 * (cat r / 2) := by omega
    rw [e, and_step (by omega) (by omega), half_dec b hb _ (by omega), ih fun x hx => h x (List.mem_cons_of_mem _ hx)]
    rfl

theorem cat_quarter : ∀ (l : List Nat), (∀ b ∈ l, b < 256) → (cat l / 4) &&& rep 51 l.length = cat (l.map fun b => b / 4 &&& 51) := by
  intro l
  induction l with
  | nil => intro _; rfl
  | cons b r ih =>
    intro h
    have hb := h b (by simp)
    show ((b + 256 * cat r) / 4) &&& (51 + 256 * rep 51 r.length) = _
    have e : (b + 256 * cat r) / 4 = (b / 4 + 64 * (cat r % 4)) + 256 * (cat r / 4) := by omega
    rw [e, and_step (by omega) (by omega), quarter_dec b hb _ (by omega), ih fun x hx => h x (List.mem_cons_of_mem _ hx)]
    rfl

theorem low_dec : ∀ a, a < 256 → a &&& 15 = a % 16 := by decide +kernel

theorem cat_nib : ∀ (l : List Nat), (∀ b ∈ l, b % 16 ≤ 4 ∧ b / 16 ≤ 4) → (cat l / 16 + cat l) &&& rep 15 l.length = cat (l.map fun b => b % 16 + b / 16) := by
  intro l
  induction l with
  | nil => intro _; rfl
  | cons b r ih =>
    intro h
    have hb := h b (by simp)
    have hr : cat r % 16 ≤ 4 := by
      cases r with
      | nil => show 0 % 16 ≤ 4; omega
      | cons c s =>
        have := (h c (by simp)).1
        show (c + 256 * cat s) % 16 ≤ 4
        omega
    show ((b + 256 * cat r) / 16 + (b + 256 * cat r)) &&& (15 + 256 * rep 15 r.length) = _
    have e : (b + 256 * cat r) / 16 + (b + 256 * cat r) = (b / 16 + b + 16 * (cat r % 16)) + 256 * (cat r / 16 + cat r) := by omega
    have hlt : b / 16 + b + 16 * (cat r % 16) < 256 := by omega
    rw [e, and_step hlt (by omega), low_dec _ hlt, ih fun x hx => h x (List.mem_cons_of_mem _ hx)]
    show _ = (b % 16 + b / 16) + 256 * cat _
    omega

theorem cat_add (f g : Nat → Nat) (l : List Nat) : cat (l.map f) + cat (l.map g) = cat (l.map fun b => f b + g b) := by
  induction l with
  | nil => rfl
  | cons b r ih =>
    show (f b + 256 * cat (r.map f)) + (g b + 256 * cat (r.map g)) = (f b + g b) + 256 * cat _
    rw [← ih]
    omega

def s1 (b : Nat) : Nat := (b / 2 &&& 85) + (b &&& 85)
def s2 (b : Nat) : Nat := (b / 4 &&& 51) + (b &&& 51)
def s3 (b : Nat) : Nat := b % 16 + b / 16
def popc (b : Nat) : Nat := (List.range 8).countP b.testBit

theorem s1_lt : ∀ b, b < 256 → s1 b < 256 := by decide +kernel
theorem s2_lt : ∀ b, b < 256 → s2 (s1 b) % 16 ≤ 4 ∧ s2 (s1 b) / 16 ≤ 4 ∧ s2 (s1 b) < 256 := by decide +kernel
theorem s3_pop : ∀ b, b < 256 → s3 (s2 (s1 b)) = popc b := by decide +kernel
theorem popc_le (b : Nat) : popc b ≤ 8 := by
  have := List.countP_le_length (p := b.testBit) (l := List.range 8)
  simpa [popc] using this

/-- The eight bytes of a word. -/
def bytes8 (x : Nat) : List Nat := [x % 256, x / 256 % 256, x / 65536 % 256, x / 16777216 % 256, x / 4294967296 % 256, x / 1099511627776 % 256, x / 281474976710656 % 256, x / 72057594037927936 % 256]

theorem bytes8_cat {x : Nat} (h : x < 18446744073709551616) : cat (bytes8 x) = x := by
  simp only [bytes8, cat]
  omega
theorem bytes8_lt (x : Nat) : ∀ b ∈ bytes8 x, b < 256 := by
  intro b hb
  simp only [bytes8, List.mem_cons, List.not_mem_nil, or_false] at hb
  omega
theorem rep8 : rep 85 8 = 6148914691236517205 ∧ rep 51 8 = 3689348814741910323 ∧ rep 15 8 = 1085102592571150095 := ⟨rfl, rfl, rfl⟩

theorem divq {x lo hi k : Nat} (h : x = lo + k * hi) (hl : lo < k) : x / k = hi := by
  rw [h, Nat.add_mul_div_left _ _ (by omega), Nat.div_eq_of_lt hl, Nat.zero_add]

theorem fin128 {A B Y Z : Nat} (h : A + B < 128) : (A + 256 * Y + (B + 256 * Z)) % 128 = A + B := by omega

/-- Eight small bytes, folded together. -/
theorem fold8 (C : BitVec 64) : ∀ (L : List Nat), C.toNat = cat L → (∀ b ∈ L, b ≤ 8) → L.length = 8 → (((C + (C >>> 8)) + ((C + (C >>> 8)) >>> 16)) + (((C + (C >>> 8)) + ((C + (C >>> 8)) >>> 16)) >>> 32)).toNat % 128 = L.sum := by
  intro L e hle hn
  match L, hn with
  | [a, b, c, d, e', f, g, h], _ =>
    simp only [List.mem_cons, List.not_mem_nil, or_false, forall_eq_or_imp, forall_eq] at hle
    simp only [cat] at e
    simp only [List.sum_cons, List.sum_nil]
    have d1 : (C >>> 8).toNat = C.toNat / 256 := by rw [BitVec.toNat_ushiftRight, Nat.shiftRight_eq_div_pow]
    have d2 : (C + (C >>> 8)).toNat = C.toNat + C.toNat / 256 := by
      rw [BitVec.toNat_add, d1, Nat.mod_eq_of_lt (by omega)]
    generalize C + (C >>> 8) = D at d2
    have d3 : (D >>> 16).toNat = D.toNat / 65536 := by rw [BitVec.toNat_ushiftRight, Nat.shiftRight_eq_div_pow]
    have d4 : (D + (D >>> 16)).toNat = D.toNat + D.toNat / 65536 := by
      rw [BitVec.toNat_add, d3, Nat.mod_eq_of_lt (by omega)]
    generalize D + (D >>> 16) = E at d4
    have d5 : (E >>> 32).toNat = E.toNat / 4294967296 := by rw [BitVec.toNat_ushiftRight, Nat.shiftRight_eq_div_pow]
    have d6 : (E + (E >>> 32)).toNat = E.toNat + E.toNat / 4294967296 := by
      rw [BitVec.toNat_add, d5, Nat.mod_eq_of_lt (by omega)]
    rw [d6]
    have q1 : C.toNat / 256 = b + 256 * (c + 256 * (d + 256 * (e' + 256 * (f + 256 * (g + 256 * h))))) := divq (lo := a) (by rw [e]; simp only [Nat.mul_zero, Nat.add_zero]) (by omega)
    have w1 : D.toNat = (a + b) + 256 * ((b + c) + 256 * ((c + d) + 256 * ((d + e') + 256 * ((e' + f) + 256 * ((f + g) + 256 * ((g + h) + 256 * h)))))) := by rw [d2, q1, e]; simp only [Nat.mul_add]; omega
    clear d1 d2 q1 e d3 d5 d6
    have q2 : D.toNat / 65536 = (c + d) + 256 * ((d + e') + 256 * ((e' + f) + 256 * ((f + g) + 256 * ((g + h) + 256 * h)))) := divq (lo := (a + b) + 256 * (b + c)) (by rw [w1]; simp only [Nat.mul_add]; omega) (by omega)
    have w2 : E.toNat = (a + b + c + d) + 256 * ((b + c + d + e') + 256 * ((c + d + e' + f) + 256 * ((d + e' + f + g) + 256 * ((e' + f + g + h) + 256 * ((f + g + h) + 256 * ((g + h) + 256 * h)))))) := by rw [d4, q2, w1]; simp only [Nat.mul_add]; omega
    clear d4 q2 w1
    have q3 : E.toNat / 4294967296 = (e' + f + g + h) + 256 * ((f + g + h) + 256 * ((g + h) + 256 * h)) := divq (lo := (a + b + c + d) + 256 * ((b + c + d + e') + 256 * ((c + d + e' + f) + 256 * (d + e' + f + g)))) (by rw [w2]; clear w2; simp only [Nat.mul_add]; omega) (by clear w2; omega)
    rw [q3, w2]
    clear q3 w2
    rw [fin128 (by omega)]
    omega

theorem swar_eq (v : BitVec 64) : swar v = ((bytes8 v.toNat).map popc).sum := by
  have hv := v.isLt
  have hl := bytes8_lt v.toNat
  have hlen : (bytes8 v.toNat).length = 8 := rfl
  have hx0 : cat (bytes8 v.toNat) = v.toNat := bytes8_cat (by omega)
  -- the first step
  have e1 : (((v >>> 1) &&& BitVec.ofInt 64 6148914691236517205) + (v &&& BitVec.ofInt 64 6148914691236517205)).toNat = cat ((bytes8 v.toNat).map s1) := by
    have h1 : ((v >>> 1) &&& BitVec.ofInt 64 6148914691236517205).toNat = cat ((bytes8 v.toNat).map fun b => b / 2 &&& 85) := by
      rw [BitVec.toNat_and, BitVec.toNat_ushiftRight, Nat.shiftRight_eq_div_pow, ← cat_half _ hl, hlen, rep8.1, hx0]
      rfl
    have h2 : (v &&& BitVec.ofInt 64 6148914691236517205).toNat = cat ((bytes8 v.toNat).map fun b => b &&& 85) := by
      rw [BitVec.toNat_and, ← cat_and (by omega) _ hl, hlen, rep8.1, hx0]
      rfl
    have b1 : ((v >>> 1) &&& BitVec.ofInt 64 6148914691236517205).toNat ≤ 6148914691236517205 := by rw [BitVec.toNat_and]; exact Nat.and_le_right
    have b2 : (v &&& BitVec.ofInt 64 6148914691236517205).toNat ≤ 6148914691236517205 := by rw [BitVec.toNat_and]; exact Nat.and_le_right
    rw [BitVec.toNat_add, Nat.mod_eq_of_lt (by omega), h1, h2, cat_add]
    rfl
  generalize hA : ((v >>> 1) &&& BitVec.ofInt 64 6148914691236517205) + (v &&& BitVec.ofInt 64 6148914691236517205) = A at e1
  -- the second step
  have hl1 : ∀ b ∈ (bytes8 v.toNat).map s1, b < 256 := by
    intro b hb
    obtain ⟨c, hc, rfl⟩ := List.mem_map.1 hb
    exact s1_lt c (hl c hc)
  have hlen1 : ((bytes8 v.toNat).map s1).length = 8 := rfl
  have e2 : (((A >>> 2) &&& BitVec.ofInt 64 3689348814741910323) + (A &&& BitVec.ofInt 64 3689348814741910323)).toNat = cat (((bytes8 v.toNat).map s1).map s2) := by
    have h1 : ((A >>> 2) &&& BitVec.ofInt 64 3689348814741910323).toNat = cat (((bytes8 v.toNat).map s1).map fun b => b / 4 &&& 51) := by
      rw [BitVec.toNat_and, BitVec.toNat_ushiftRight, Nat.shiftRight_eq_div_pow, ← cat_quarter _ hl1, hlen1, rep8.2.1, e1]
      rfl
    have h2 : (A &&& BitVec.ofInt 64 3689348814741910323).toNat = cat (((bytes8 v.toNat).map s1).map fun b => b &&& 51) := by
      rw [BitVec.toNat_and, ← cat_and (by omega) _ hl1, hlen1, rep8.2.1, e1]
      rfl
    have b1 : ((A >>> 2) &&& BitVec.ofInt 64 3689348814741910323).toNat ≤ 3689348814741910323 := by rw [BitVec.toNat_and]; exact Nat.and_le_right
    have b2 : (A &&& BitVec.ofInt 64 3689348814741910323).toNat ≤ 3689348814741910323 := by rw [BitVec.toNat_and]; exact Nat.and_le_right
    rw [BitVec.toNat_add, Nat.mod_eq_of_lt (by omega), h1, h2, cat_add]
    rfl
  generalize hB : ((A >>> 2) &&& BitVec.ofInt 64 3689348814741910323) + (A &&& BitVec.ofInt 64 3689348814741910323) = B at e2
  -- the third step
  have hl2 : ∀ b ∈ ((bytes8 v.toNat).map s1).map s2, b % 16 ≤ 4 ∧ b / 16 ≤ 4 := by
    intro b hb
    obtain ⟨c, hc, rfl⟩ := List.mem_map.1 hb
    obtain ⟨d, hd, rfl⟩ := List.mem_map.1 hc
    exact ⟨(s2_lt d (hl d hd)).1, (s2_lt d (hl d hd)).2.1⟩
  have hlen2 : (((bytes8 v.toNat).map s1).map s2).length = 8 := rfl
  have hBt : B.toNat ≤ 4919131752989213764 := by
    rw [e2]
    have hq : ∀ b ∈ ((bytes8 v.toNat).map s1).map s2, b ≤ 68 := by intro b hb; have := hl2 b hb; omega
    have key : ∀ (l : List Nat), (∀ b ∈ l, b ≤ 68) → l.length = 8 → cat l ≤ 4919131752989213764 := by
      intro l hl hn
      match l, hn with
      | [a, b, c, d, e, f, g, h], _ =>
        simp only [List.mem_cons, List.not_mem_nil, or_false, forall_eq_or_imp, forall_eq] at hl
        simp only [cat]
        omega
    exact key _ hq hlen2
  have e3 : (((B >>> 4) + B) &&& BitVec.ofInt 64 1085102592571150095).toNat = cat ((((bytes8 v.toNat).map s1).map s2).map s3) := by
    rw [BitVec.toNat_and, BitVec.toNat_add, BitVec.toNat_ushiftRight, Nat.shiftRight_eq_div_pow, Nat.mod_eq_of_lt (by omega), e2]
    rw [show (BitVec.ofInt 64 1085102592571150095).toNat = rep 15 8 from rfl]
    exact cat_nib _ hl2
  generalize hC : (((B >>> 4) + B) &&& BitVec.ofInt 64 1085102592571150095) = C at e3
  have e4 : (((bytes8 v.toNat).map s1).map s2).map s3 = (bytes8 v.toNat).map popc := by
    rw [List.map_map, List.map_map]
    exact List.map_congr_left fun b hb => s3_pop b (hl b hb)
  rw [e4] at e3
  -- the sums
  have hs : swar v = (((C + (C >>> 8)) + ((C + (C >>> 8)) >>> 16)) + (((C + (C >>> 8)) + ((C + (C >>> 8)) >>> 16)) >>> 32)).toNat % 128 := by
    subst hC hB hA
    rfl
  rw [hs]
  have hle : ∀ b ∈ (bytes8 v.toNat).map popc, b ≤ 8 := by
    intro b hb
    obtain ⟨c, _, rfl⟩ := List.mem_map.1 hb
    exact popc_le c
  have hlen3 : ((bytes8 v.toNat).map popc).length = 8 := rfl
  generalize (bytes8 v.toNat).map popc = L at e3 hle hlen3 ⊢
  exact fold8 C L e3 hle hlen3

/-- The bits of a word, counted one by one. -/
theorem popc_bytes (x : Nat) (k : Nat) (h : x < 2 ^ (8 * k)) : (List.range (8 * k)).countP x.testBit = ((List.range k).map fun i => popc (x / 256 ^ i % 256)).sum := by
  clear h
  induction k with
  | zero => rfl
  | succ k ih =>
    rw [show 8 * (k + 1) = 8 * k + 8 by omega, List.range_add, List.countP_append, ih, List.range_succ (n := k), List.map_append, List.sum_append]
    congr 1
    rw [List.countP_map]
    simp only [List.map_cons, List.map_nil, List.sum_cons, List.sum_nil, Nat.add_zero, popc]
    refine List.countP_congr fun i hi => ?_
    have hi8 : i < 8 := List.mem_range.1 hi
    have e : (256 : Nat) ^ k = 2 ^ (8 * k) := by rw [Nat.pow_mul]
    have : (x / 256 ^ k % 256).testBit i = x.testBit (8 * k + i) := by
      rw [e, show (256 : Nat) = 2 ^ 8 from rfl, Nat.testBit_mod_two_pow, ← Nat.shiftRight_eq_div_pow, Nat.testBit_shiftRight]
      simp [hi8]
    simp only [Function.comp_apply]
    rw [this]

theorem swar_count (v : BitVec 64) : swar v = (List.range 64).countP v.toNat.testBit := by
  rw [swar_eq, popc_bytes v.toNat 8 v.isLt]
  simp only [bytes8, List.map_cons, List.map_nil, show List.range 8 = [0, 1, 2, 3, 4, 5, 6, 7] from rfl, Nat.pow_zero, Nat.div_one]

end
end Go.Den
