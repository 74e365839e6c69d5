/- What the program's numbers come to: limbs, sums, products, powers, quotients, texts. -/
import Derived.Test.YtjkfpbfimcpoeaaGreatDoorEngA
import Derived.Test.YtjkfpbfimcpoeaaGreatDoorEquB
import Derived.Laws.Bits64
import Derived.Laws.BitsLemmas
section
set_option linter.unusedSimpArgs false
set_option linter.unusedVariables false
namespace KD
open Num
/-! ## Rows of so many digits -/
def fx (B : Int) : Nat → Int → List Int
  | 0, _ => []
  | n + 1, v => (v % B) :: fx B n (v / B)
theorem fx_len (B : Int) : ∀ (n : Nat) (v : Int), (fx B n v).length = n
  | 0, _ => rfl
  | n + 1, v => by simp [fx, fx_len B n]
theorem fx_dg {B : Int} (hB : 0 < B) : ∀ (n : Nat) (v : Int), Dg B (fx B n v)
  | 0, _ => Dg.nil
  | n + 1, v => Dg.cons (Int.emod_nonneg _ (by omega)) (Int.emod_lt_of_pos _ hB) (fx_dg hB n _)
theorem fx_val {B : Int} (hB : 0 < B) : ∀ (n : Nat) (v : Int), val B (fx B n v) = v % B ^ n
  | 0, v => by simp [fx, val, Int.emod_one]
  | n + 1, v => by
    have h := fx_val hB n (v / B)
    show v % B + B * val B (fx B n (v / B)) = _
    rw [h, Int.pow_succ, Int.mul_comm (B ^ n) B]
    have hP : 0 < B ^ n := Int.pow_pos hB
    have e1 := Int.mul_ediv_add_emod v B
    have e2 := Int.mul_ediv_add_emod (v / B) (B ^ n)
    have a0 := Int.emod_nonneg v (show B ≠ 0 by omega)
    have a1 := Int.emod_lt_of_pos v hB
    have b0 := Int.emod_nonneg (v / B) (show B ^ n ≠ 0 by omega)
    have b1 := Int.emod_lt_of_pos (v / B) hP
    generalize v % B = m at *
    generalize (v / B) % B ^ n = R at *
    generalize v / B / B ^ n = Q at *
    generalize v / B = D at *
    have e3 : v = (m + B * R) + B * B ^ n * Q := by rw [← e1, ← e2]; grind
    have c0 : 0 ≤ B * R := Int.mul_nonneg (by omega) b0
    have c1 : B * (R + 1) ≤ B * B ^ n := Int.mul_le_mul_of_nonneg_left (by omega) (by omega)
    have c2 : B * (R + 1) = B * R + B := by grind
    rw [e3, Int.add_mul_emod_self_left]
    exact (Int.emod_eq_of_lt (by omega) (by omega)).symm
theorem fx_uni {B : Int} (hB : 0 < B) : ∀ {l : List Int}, Dg B l → l = fx B l.length (val B l)
  | [], _ => rfl
  | d :: l, h => by
    have h0 := h.head
    have ih := fx_uni hB h.tail
    show d :: l = ((d + B * val B l) % B) :: fx B l.length ((d + B * val B l) / B)
    have e1 : (d + B * val B l) % B = d := by rw [Int.add_mul_emod_self_left]; exact Int.emod_eq_of_lt h0.1 h0.2
    have e2 : (d + B * val B l) / B = val B l := by rw [Int.add_mul_ediv_left _ _ (by omega), Int.ediv_eq_zero_of_lt h0.1 h0.2]; omega
    rw [e1, e2, ← ih]
theorem fx_of {B : Int} (hB : 0 < B) {l : List Int} {n : Nat} {v : Int} (h : Dg B l) (hl : l.length = n) (hv : val B l = v) : l = fx B n v := by
  rw [← hl, ← hv]; exact fx_uni hB h
theorem pow_pos' {B : Int} (hB : 0 < B) (n : Nat) : 0 < B ^ n := Int.pow_pos hB
/-- The digits from a place on. -/
theorem val_drop {B : Int} (hB : 0 < B) {l : List Int} (h : Dg B l) {i : Nat} (hi : i ≤ l.length) : val B (l.drop i) = val B l / B ^ i := by
  have e := val_take_drop (B := B) l i hi
  have h1 := val_nonneg (B := B) (by omega) (h.take i)
  have h2 := val_lt hB (h.take i)
  rw [List.length_take, Nat.min_eq_left hi] at h2
  rw [e, Int.add_mul_ediv_left _ _ (by have := pow_pos' hB i; omega), Int.ediv_eq_zero_of_lt h1 h2]
  omega
/-! ## A guess -/
theorem guess_ge {k q v1 r M W s t U V : Int} (hV : V = v1 * W + t) (ht : 0 ≤ t) (hU : U = M * W + s) (hs : s < W) (hW : 0 < W) (hv : 0 ≤ v1) (hk : k * v1 + r = M) (hr : r < v1) (hk0 : 0 ≤ k) (hq : q * V ≤ U) : q ≤ k := by
  refine Int.not_lt.1 fun hlt => ?_
  have hV0 : 0 ≤ V := by rw [hV]; have := Int.mul_nonneg hv (Int.le_of_lt hW); omega
  have h1 : (k + 1) * V ≤ q * V := Int.mul_le_mul_of_nonneg_right (by omega) hV0
  have h2 : (k + 1) * V = (k * v1 + v1) * W + (k + 1) * t := by rw [hV]; grind
  have h3 : 0 ≤ (k + 1) * t := Int.mul_nonneg (by omega) ht
  have h4 : (M + 1) * W ≤ (k * v1 + v1) * W := Int.mul_le_mul_of_nonneg_right (by omega) (Int.le_of_lt hW)
  have h5 : (M + 1) * W = M * W + W := by grind
  omega
theorem guess_less {k q v1 v0 r M B u0 P s t U V : Int} (hV : V = (v1 * B + v0) * P + t) (ht : 0 ≤ t) (hU : U = (M * B + u0) * P + s) (hs : s < P) (hP : 0 < P) (hk : k * v1 + r = M) (hk0 : 0 ≤ k) (hgt : r * B + u0 < k * v0) (hq : q * V ≤ U) (hqk : q ≤ k) : q ≤ k - 1 := by
  rcases Int.lt_or_eq_of_le hqk with h | e
  · omega
  exfalso
  subst e
  have h2 : q * V = (q * v1 * B + q * v0) * P + q * t := by rw [hV]; grind
  have h3 : 0 ≤ q * t := Int.mul_nonneg hk0 ht
  have h6 : (M * B + u0 + 1) ≤ (q * v1 * B + q * v0) := by
    have : M * B = q * v1 * B + r * B := by rw [← hk]; grind
    omega
  have h4 : (M * B + u0 + 1) * P ≤ (q * v1 * B + q * v0) * P := Int.mul_le_mul_of_nonneg_right h6 (Int.le_of_lt hP)
  have h5 : (M * B + u0 + 1) * P = (M * B + u0) * P + P := by grind
  omega
end KD
end
section
set_option linter.unusedSimpArgs false
set_option linter.unusedVariables false
namespace KD
open Num
/-- The highest digit. -/
theorem top_digit {B : Int} (hB : 0 < B) {p : List Int} (h : Dg B p) {n : Nat} (hl : p.length = n + 1) : p.getD n 0 = val B p / B ^ n := by
  rw [← val_drop hB h (by omega)]
  have e : p.drop n = [p.getD n 0] := by
    rw [List.drop_eq_getElem_cons (by omega), List.drop_eq_nil_of_le (by omega)]
    simp [List.getD_eq_getElem?_getD, List.getElem?_eq_getElem (show n < p.length by omega)]
  rw [e]; simp [val]
/-- One round of adding back. -/
theorem back_round {B : Int} (hB : 2 ≤ B) {n : Nat} {U V k q r x b x' : Int} (hV : 0 < V ∧ V < B ^ n) (hU : U = q * V + r) (hr : 0 ≤ r ∧ r < V) (hq : 0 ≤ q) (hk : q < k ∧ k < B) (hx : x = U - k * V + B ^ (n + 1)) (hx' : x' = x + V - B ^ (n + 1) * b) (h0 : 0 ≤ x' ∧ x' < B ^ (n + 1)) :
    (k - 1 = q → x' = r ∧ x' / B ^ n = 0) ∧ (q < k - 1 → x' = U - (k - 1) * V + B ^ (n + 1) ∧ x' / B ^ n ≠ 0) := by
  have hP : 0 < B ^ n := Int.pow_pos (by omega)
  have hP1 : B ^ (n + 1) = B ^ n * B := Int.pow_succ ..
  have e1 : x + V = (q - (k - 1)) * V + r + B ^ (n + 1) := by rw [hx, hU]; grind
  constructor
  · intro h
    rw [h] at e1
    have e2 : x' = r + B ^ (n + 1) * (1 - b) := by grind
    have hb : b = 1 := by
      have hbig : V < B ^ (n + 1) := by
        have : B ^ n * 1 ≤ B ^ n * B := Int.mul_le_mul_of_nonneg_left (by omega) (by omega)
        omega
      rcases Int.lt_trichotomy b 1 with hb | hb | hb
      · have : B ^ (n + 1) * 1 ≤ B ^ (n + 1) * (1 - b) := Int.mul_le_mul_of_nonneg_left (by omega) (by omega)
        omega
      · exact hb
      · have : B ^ (n + 1) * (1 - b) ≤ B ^ (n + 1) * (-1) := Int.mul_le_mul_of_nonneg_left (by omega) (by omega)
        omega
    subst hb
    have e3 : x' = r := by rw [e2]; omega
    exact ⟨e3, by rw [e3]; exact Int.ediv_eq_zero_of_lt hr.1 (by omega)⟩
  · intro h
    obtain ⟨j, hj⟩ : ∃ j, k - 1 - q = j := ⟨_, rfl⟩
    have e2 : x + V = r + B ^ (n + 1) - j * V := by rw [e1, ← hj]; grind
    have hj0 : 1 ≤ j := by omega
    have hj1 : j ≤ B - 2 := by omega
    have m1 : 1 * V ≤ j * V := Int.mul_le_mul_of_nonneg_right hj0 (by omega)
    have m2 : j * V ≤ (B - 2) * B ^ n := Int.mul_le_mul (by omega) (by omega) (by omega) (by omega)
    have m3 : (B - 2) * B ^ n = B ^ n * B - 2 * B ^ n := by grind
    have hb : b = 0 := by
      rcases Int.lt_trichotomy b 0 with hb | hb | hb
      · have : B ^ (n + 1) * b ≤ B ^ (n + 1) * (-1) := Int.mul_le_mul_of_nonneg_left (by omega) (by omega)
        omega
      · exact hb
      · have : B ^ (n + 1) * 1 ≤ B ^ (n + 1) * b := Int.mul_le_mul_of_nonneg_left (by omega) (by omega)
        omega
    subst hb
    have e3 : x' = x + V := by rw [hx']; omega
    refine ⟨by rw [e3, e2, hU, ← hj]; grind, ?_⟩
    intro hz
    have : x' < B ^ n := by
      have h9 := Int.emod_lt_of_pos x' hP
      have h8 := Int.mul_ediv_add_emod x' (B ^ n)
      rw [hz] at h8
      omega
    omega
/-- What the first subtraction leaves. -/
theorem less_first {B : Int} (hB : 2 ≤ B) {n : Nat} {U V k q r x b : Int} (hV : 0 < V ∧ V < B ^ n) (hU : U = q * V + r) (hr : 0 ≤ r ∧ r < V) (hq : 0 ≤ q) (hk : q ≤ k ∧ k < B) (hb : b = 0 ∨ b = 1) (hx : x = U - k * V + B ^ (n + 1) * b) (h0 : 0 ≤ x ∧ x < B ^ (n + 1)) :
    (k = q → b = 0 ∧ x = r) ∧ (q < k → b = 1 ∧ x = U - k * V + B ^ (n + 1)) := by
  have hP : 0 < B ^ n := Int.pow_pos (by omega)
  have hP1 : B ^ (n + 1) = B ^ n * B := Int.pow_succ ..
  constructor
  · intro h
    have e1 : x = r + B ^ (n + 1) * b := by rw [hx, hU, h]; grind
    rcases hb with rfl | rfl
    · exact ⟨rfl, by omega⟩
    · omega
  · intro h
    rcases hb with rfl | rfl
    · have m1 : (q + 1) * V ≤ k * V := Int.mul_le_mul_of_nonneg_right (by omega) (by omega)
      have m2 : (q + 1) * V = q * V + V := by grind
      omega
    · exact ⟨rfl, by omega⟩
end KD
end
section
set_option linter.unusedSimpArgs false
set_option linter.unusedVariables false
namespace TryzE
open Go.Eng Go.Proofs Num
/-- a number's limbs -/
def L (n : Nat) : List Int := dig 18446744073709551616 n
theorem L_dg (n : Nat) : Dg (18446744073709551616 : Int) (L n) := dig_dg (B := 18446744073709551616) (by decide) n
theorem L_val (n : Nat) : val (18446744073709551616 : Int) (L n) = n := dig_val (B := 18446744073709551616) (by decide) n
theorem L_tr (n : Nat) : Tr (L n) := dig_tr (B := 18446744073709551616) (by decide) n
theorem L_lt (n : Nat) : n < 18446744073709551616 ^ (L n).length := lt_of_dig_len (B := 18446744073709551616) (by decide) n
theorem L_len {n k : Nat} (h : n < 18446744073709551616 ^ k) : (L n).length ≤ k := dig_len_lt (B := 18446744073709551616) (by decide) h
theorem L_le {n m : Nat} (h : m < (L n).length) : 18446744073709551616 ^ m ≤ n := by
  rcases Nat.lt_or_ge n (18446744073709551616 ^ m) with h1 | h1
  · have := L_len h1; omega
  · exact h1
theorem L_uni {l : List Int} (h : Dg (18446744073709551616 : Int) l) (t : Tr l) {n : Nat} (hv : val (18446744073709551616 : Int) l = n) : l = L n := dig_unique (B := 18446744073709551616) (by decide) h t hv
theorem L_nil {n : Nat} : L n = [] ↔ n = 0 := dig_eq_nil (B := 18446744073709551616) (by decide)
theorem L_zero : L 0 = [] := rfl
theorem L_one {n : Nat} (h0 : 0 < n) (h1 : n < 18446744073709551616) : L n = [(n : Int)] := by
  unfold L
  rw [dig_pos (by decide) h0, Nat.mod_eq_of_lt h1, Nat.div_eq_of_lt h1]; rfl
theorem L_trim {l : List Int} (h : Dg (18446744073709551616 : Int) l) {n k : Nat} (hv : val (18446744073709551616 : Int) l = n) (hk : k ≤ l.length) (hz : ∀ i, k ≤ i → i < l.length → l.getD i 0 = 0) (ht : k = 0 ∨ l.getD (k - 1) 0 ≠ 0) : l.take k = L n := trim_dig (B := 18446744073709551616) (by decide) h hv hk hz ht
theorem wi {x : Int} (h : -9223372036854775808 ≤ x) (h' : x < 9223372036854775808) : Go.IntKind.i64.wrap x = x := by rw [Go.IntKind.wrap_i64]; omega
theorem wu (x : Int) : Go.IntKind.u64.wrap x = x % 18446744073709551616 := Go.IntKind.wrap_u64 x
theorem succOf {k n : Nat} (h : n + 1 ≤ k) : ∃ j, k = j + 1 ∧ n ≤ j := ⟨k - 1, by omega, by omega⟩

theorem C_X {k g : Nat} {h : List AA → Option Res} {xs : List AA} (hX : X g = some h) : C (k + 1) g xs = h xs := by
  show (match X g with | some h => h xs | none => _) = _
  rw [hX]

theorem clone_spec (l : List Int) (hl : (l.length : Int) < 1000000000) : ∀ k, 1 ≤ k → ∀ F : List Int → Option Res, callT (C k 111 [(.v (.c (.sl (.int .u64) l)))]) sh111 F = F l := by
  intro k hk F
  obtain ⟨k, rfl, -⟩ := succOf hk
  have h : Nat.ble l.length 17592186044416 = true := by rw [Nat.ble_eq]; omega
  have e : xCloneF [(.v (.c (.sl (.int .u64) l)))] = some ⟨[(.fresh (.int .u64) l)], []⟩ := by
    unfold xCloneF
    simp only [h]
  rw [C_X (g := 111) (h := xCloneF) rfl, e]
  rfl
theorem zero_spec (l : List Int) : ∀ k, 1 ≤ k → ∀ F : Bool → Option Res, callT (C k 77 [(.v (.agg [(.sl (.int .u64) l)]))]) sh77 F = F (decide (l = [])) := by
  intro k hk F
  obtain ⟨k, rfl, -⟩ := succOf hk
  rw [natNatZero.eq]
  cases l with
  | nil => rfl
  | cons a l => 
    have : (((a :: l).length : Int) == 0) = false := by simp; omega
    rw [this]; simp [callT]; rfl
theorem limbs_spec (l : List Int) (hl : (l.length : Int) < 1000000000) : ∀ k, 2 ≤ k → ∀ F : List Int → Option Res, callT (C k 128 [(.v (.agg [(.sl (.int .u64) l)]))]) sh128 F = F l := by
  intro k hk F
  obtain ⟨k, rfl, hk'⟩ := succOf hk
  rw [natNatLimbs.eq, clone_spec l hl k hk']
  rfl
/-! trimmed -/
theorem trimmed_loop (l : List Int) : ∀ (j : Nat), j ≤ l.length → (l.length : Int) < 1000000000 → ∀ k n, j + 1 ≤ n → ∃ i, i ≤ j ∧ natTrimmed.l0 k n l (j : Int) = some ⟨[(.v (.agg [(.sl (.int .u64) (l.take i))]))], []⟩ ∧ (∀ x, i ≤ x → x < j → l.getD x 0 = 0) ∧ (i = 0 ∨ l.getD (i - 1) 0 ≠ 0) := by
  intro j
  induction j with
  | zero =>
    intro hj hl k n hn
    obtain ⟨n, rfl, -⟩ := succOf hn
    refine ⟨0, Nat.le_refl _, ?_, fun x h1 h2 => absurd h2 (by omega), .inl rfl⟩
    rw [natTrimmed.l0_succ, natTrimmed.j4_eq]
    simp only [iteA_eq]
    simp
  | succ j ih =>
    intro hj hl k n hn
    obtain ⟨n, rfl, hn'⟩ := succOf hn
    rw [natTrimmed.l0_succ]
    have w : Go.IntKind.i64.wrap (((j + 1 : Nat) : Int) - 1) = (j : Int) := by rw [wi (by omega) (by omega)]; omega
    simp only [iteA_eq, w]
    rw [if_pos (by simp), if_pos (by omega)]
    by_cases h0 : l.getD j 0 = 0
    · rw [if_pos (by simpa using h0)]
      obtain ⟨i, h1, h2, h3, h4⟩ := ih (by omega) hl k n hn'
      refine ⟨i, by omega, h2, fun x hx1 hx2 => ?_, h4⟩
      by_cases hx : x = j
      · subst hx; exact h0
      · exact h3 x hx1 (by omega)
    · rw [if_neg (by simpa using h0)]
      refine ⟨j + 1, Nat.le_refl _, ?_, fun x h1 h2 => absurd h2 (by omega), .inr (by simpa using h0)⟩
      rw [natTrimmed.j4_eq]
      simp only [iteA_eq]
      rw [if_pos (by omega)]
      simp
theorem trimmed_spec (l : List Int) (n : Nat) (h : Dg (18446744073709551616 : Int) l) (hv : val (18446744073709551616 : Int) l = n) (hl : (l.length : Int) < 1000000000) : ∀ k, l.length + 2 ≤ k → ∀ F : List Int → Option Res, callT (C k 110 [(.v (.c (.sl (.int .u64) l)))]) sh110 F = F (L n) := by
  intro k hk F
  obtain ⟨k, rfl, hk'⟩ := succOf hk
  obtain ⟨i, h1, h2, h3, h4⟩ := trimmed_loop l l.length (Nat.le_refl _) hl k k hk'
  rw [natTrimmed.eq, h2, L_trim h hv h1 h3 h4]
  rfl
theorem of_spec (l : List Int) (n : Nat) (h : Dg (18446744073709551616 : Int) l) (hv : val (18446744073709551616 : Int) l = n) (hl : (l.length : Int) < 1000000000) : ∀ k, l.length + 3 ≤ k → ∀ F : List Int → Option Res, callT (C k 61 [(.v (.c (.sl (.int .u64) l)))]) sh61 F = F (L n) := by
  intro k hk F
  obtain ⟨k, rfl, hk'⟩ := succOf hk
  rw [natOf.eq, clone_spec _ hl k (by omega), trimmed_spec l n h hv hl k (by omega)]
  rfl
end TryzE
end
section
set_option linter.unusedSimpArgs false
set_option linter.unusedVariables false
namespace TryzE
open Go.Eng Go.Proofs Num
/-! ## Lists and their values -/
theorem val_take_succ {B : Int} (l : List Int) (i : Nat) : val B (l.take (i + 1)) = val B (l.take i) + B ^ i * l.getD i 0 := by
  by_cases h : i < l.length
  · rw [List.take_succ_eq_append_getElem h, val_append, List.length_take, Nat.min_eq_left (by omega)]
    simp [val, List.getD_eq_getElem?_getD, List.getElem?_eq_getElem h]
  · rw [List.take_of_length_le (by omega), List.take_of_length_le (by omega), List.getD_eq_getElem?_getD, List.getElem?_eq_none (by omega)]
    simp
theorem take_set_self {l : List Int} (i : Nat) (x : Int) : (l.set i x).take i = l.take i := by
  rw [List.take_set_of_le (Nat.le_refl _)]
theorem getD_set_self {l : List Int} {i : Nat} (h : i < l.length) (x : Int) : (l.set i x).getD i 0 = x := by
  simp [List.getD_eq_getElem?_getD, h]
theorem getD_set_ne {l : List Int} {i j : Nat} (h : i ≠ j) (x : Int) : (l.set i x).getD j 0 = l.getD j 0 := by
  simp [List.getD_eq_getElem?_getD, h]
theorem pow_mono {B : Int} (hB : 0 < B) {m n : Nat} (h : m ≤ n) : B ^ m ≤ B ^ n := by
  obtain ⟨d, rfl⟩ := Nat.exists_eq_add_of_le h
  rw [Int.pow_add]
  have h1 : 0 < B ^ d := Int.pow_pos hB
  have h2 : 0 < B ^ m := Int.pow_pos hB
  have := Int.mul_le_mul_of_nonneg_left (show (1 : Int) ≤ B ^ d by omega) (Int.le_of_lt h2)
  omega
/-! ## Comparing -/
def sgn (a b : Nat) : Int := if a < b then -1 else if b < a then 1 else 0
def sgnI (a b : Int) : Int := if a < b then -1 else if b < a then 1 else 0
theorem isnan93 (a : Int) : ∀ k, 1 ≤ k → ∀ F : Bool → Option Res, callT (C k 187 [(.v (.c (.int .i64 a)))]) sh187 F = F false := by
  intro k hk F
  obtain ⟨k, rfl, hk'⟩ := succOf hk
  rw [cmpIsNaN187.eq, show (a != a) = false by simp]; rfl
theorem isnan94 (a : Int) : ∀ k, 1 ≤ k → ∀ F : Bool → Option Res, callT (C k 188 [(.v (.c (.int .u64 a)))]) sh188 F = F false := by
  intro k hk F
  obtain ⟨k, rfl, hk'⟩ := succOf hk
  rw [cmpIsNaN188.eq, show (a != a) = false by simp]; rfl
theorem cmp65_spec (a b : Int) : ∀ k, 2 ≤ k → ∀ F : Int → Option Res, callT (C k 171 [(.v (.c (.int .i64 a))), (.v (.c (.int .i64 b)))]) sh171 F = F (sgnI a b) := by
  intro k hk F
  obtain ⟨k, rfl, hk'⟩ := succOf hk
  rw [cmpCompare171.eq, isnan93 a k hk', isnan93 b k hk']
  simp only [iteA_eq, Bool.false_eq_true, if_false, decide_eq_true_eq]
  unfold sgnI
  by_cases h : a < b
  · rw [if_pos h, if_pos h]; rfl
  · rw [if_neg h, if_neg h]
    by_cases h : b < a
    · rw [if_pos h, if_pos h]; rfl
    · rw [if_neg h, if_neg h]; rfl
theorem cmp66_spec (a b : Int) : ∀ k, 2 ≤ k → ∀ F : Int → Option Res, callT (C k 172 [(.v (.c (.int .u64 a))), (.v (.c (.int .u64 b)))]) sh172 F = F (sgnI a b) := by
  intro k hk F
  obtain ⟨k, rfl, hk'⟩ := succOf hk
  rw [cmpCompare172.eq, isnan94 a k hk', isnan94 b k hk']
  simp only [iteA_eq, Bool.false_eq_true, if_false, decide_eq_true_eq]
  unfold sgnI
  by_cases h : a < b
  · rw [if_pos h, if_pos h]; rfl
  · rw [if_neg h, if_neg h]
    by_cases h : b < a
    · rw [if_pos h, if_pos h]; rfl
    · rw [if_neg h, if_neg h]; rfl
theorem val_split {B : Int} (l : List Int) (j : Nat) (hj : j < l.length) : val B l = val B (l.take j) + B ^ j * (l.getD j 0 + B * val B (l.drop (j + 1))) := by
  rw [val_take_drop l j (by omega), List.drop_eq_getElem_cons hj]
  simp [val, List.getD_eq_getElem?_getD, List.getElem?_eq_getElem hj]
theorem val_lt_at {B : Int} (hB : 0 < B) {l m : List Int} (hl : Dg B l) (hm : Dg B m) (he : l.length = m.length) {j : Nat} (hj : j < l.length) (hd : l.drop (j + 1) = m.drop (j + 1)) (hlt : l.getD j 0 < m.getD j 0) : val B l < val B m := by
  rw [val_split l j hj, val_split m j (by omega), hd]
  have h1 : val B (l.take j) < B ^ j := by
    have := val_lt hB (hl.take j)
    rwa [List.length_take, Nat.min_eq_left (by omega)] at this
  have h2 := val_nonneg (B := B) (by omega) (hm.take j)
  have h3 : B ^ j * (l.getD j 0 + B * val B (m.drop (j + 1))) + B ^ j * 1 ≤ B ^ j * (m.getD j 0 + B * val B (m.drop (j + 1))) := by
    rw [← Int.mul_add]
    exact Int.mul_le_mul_of_nonneg_left (by omega) (Int.le_of_lt (Int.pow_pos hB))
  omega
theorem cmp_loop {l m : List Int} (hl : Dg (18446744073709551616 : Int) l) (hm : Dg (18446744073709551616 : Int) m) (he : l.length = m.length) (hs : (l.length : Int) < 1000000000) : ∀ (j : Nat), j ≤ l.length → l.drop j = m.drop j → ∀ k n, 2 ≤ k → j + 1 ≤ n → ∀ F : Int → Option Res, callT (natNatCmp.l0 k n ((j : Int) - 1) l m) sh158 F = F (sgnI (val (18446744073709551616 : Int) l) (val (18446744073709551616 : Int) m)) := by
  intro j
  induction j with
  | zero =>
    intro hj hd k n hk hn F
    obtain ⟨n, rfl, hn'⟩ := succOf hn
    rw [natNatCmp.l0_succ]
    have : l = m := by simpa using hd
    subst this
    simp only [iteA_eq]
    rw [if_neg (by simp)]
    simp only [sgnI, Int.lt_irrefl, if_false]
    rfl
  | succ j ih =>
    intro hj hd k n hk hn F
    obtain ⟨n, rfl, hn'⟩ := succOf hn
    rw [natNatCmp.l0_succ]
    have e : ((j + 1 : Nat) : Int) - 1 = (j : Int) := by omega
    simp only [iteA_eq, e]
    rw [if_pos (by simp), if_pos (by omega), if_pos (by omega), cmp66_spec _ _ k hk]
    simp only [Int.toNat_natCast]
    by_cases hlt : l.getD j 0 < m.getD j 0
    · have := val_lt_at (by decide) hl hm he (by omega) hd hlt
      have s1 : sgnI (l.getD j 0) (m.getD j 0) = -1 := by rw [sgnI, if_pos hlt]
      have s2 : sgnI (val (18446744073709551616 : Int) l) (val (18446744073709551616 : Int) m) = -1 := by rw [sgnI, if_pos this]
      rw [s1, s2]; rfl
    · by_cases hgt : m.getD j 0 < l.getD j 0
      · have := val_lt_at (by decide) hm hl he.symm (by omega) hd.symm hgt
        have s1 : sgnI (l.getD j 0) (m.getD j 0) = 1 := by rw [sgnI, if_neg hlt, if_pos hgt]
        have s2 : sgnI (val (18446744073709551616 : Int) l) (val (18446744073709551616 : Int) m) = 1 := by rw [sgnI, if_neg (by omega), if_pos this]
        rw [s1, s2]; rfl
      · have s1 : sgnI (l.getD j 0) (m.getD j 0) = 0 := by rw [sgnI, if_neg hlt, if_neg hgt]
        rw [s1, if_neg (by decide), wi (by omega) (by omega)]
        refine ih (by omega) ?_ k n hk hn' F
        rw [List.drop_eq_getElem_cons (by omega : j < l.length), List.drop_eq_getElem_cons (by omega : j < m.length), hd]
        have : l.getD j 0 = m.getD j 0 := by omega
        simp only [List.getD_eq_getElem?_getD, List.getElem?_eq_getElem (by omega : j < l.length), List.getElem?_eq_getElem (by omega : j < m.length), Option.getD_some] at this
        rw [this]
theorem cmp_spec (a b : Nat) (ha : ((L a).length : Int) < 1000000000) (hb : ((L b).length : Int) < 1000000000) : ∀ k, (L a).length + 4 ≤ k → ∀ F : Int → Option Res, callT (C k 158 [(.v (.agg [(.sl (.int .u64) (L a))])), (.v (.agg [(.sl (.int .u64) (L b))]))]) sh158 F = F (sgn a b) := by
  intro k hk F
  obtain ⟨k, rfl, hk'⟩ := succOf hk
  rw [natNatCmp.eq, cmp65_spec _ _ k (by omega)]
  simp only [iteA_eq]
  by_cases h1 : (L a).length < (L b).length
  · have s1 : sgnI ((L a).length : Int) ((L b).length : Int) = -1 := by rw [sgnI, if_pos (by omega)]
    have h2 := L_lt a
    have h3 := L_le h1
    have s2 : sgn a b = -1 := by rw [sgn, if_pos (by omega)]
    rw [s1, s2]; rfl
  · by_cases h1' : (L b).length < (L a).length
    · have s1 : sgnI ((L a).length : Int) ((L b).length : Int) = 1 := by rw [sgnI, if_neg (by omega), if_pos (by omega)]
      have h2 := L_lt b
      have h3 := L_le h1'
      have s2 : sgn a b = 1 := by rw [sgn, if_neg (by omega), if_pos (by omega)]
      rw [s1, s2]; rfl
    · have s1 : sgnI ((L a).length : Int) ((L b).length : Int) = 0 := by rw [sgnI, if_neg (by omega), if_neg (by omega)]
      have he : (L a).length = (L b).length := by omega
      rw [s1, if_neg (by decide), wi (by omega) (by omega)]
      rw [cmp_loop (L_dg a) (L_dg b) he ha (L a).length (Nat.le_refl _) (by rw [List.drop_of_length_le (Nat.le_refl _), List.drop_of_length_le (by omega)]) k k (by omega) (by omega)]
      rw [L_val, L_val]
      congr 1
      unfold sgn sgnI
      by_cases x : a < b
      · rw [if_pos x, if_pos (by omega)]
      · rw [if_neg x, if_neg (by omega)]
        by_cases y : b < a
        · rw [if_pos y, if_pos (by omega)]
        · rw [if_neg y, if_neg (by omega)]
theorem limb_spec (l : List Int) (i : Nat) : ∀ k, 1 ≤ k → ∀ F : Int → Option Res, callT (C k 155 [(.v (.agg [(.sl (.int .u64) l)])), (.v (.c (.int .i64 (i : Int))))]) sh155 F = F (l.getD i 0) := by
  intro k hk F
  obtain ⟨k, rfl, hk'⟩ := succOf hk
  rw [natNatLimb.eq]
  simp only [iteA_eq]
  by_cases h : l.length ≤ i
  · rw [if_pos (by simpa using h), List.getD_eq_getElem?_getD, List.getElem?_eq_none h]; rfl
  · rw [if_neg (by simpa using h), if_pos (by omega)]; rfl
end TryzE
end
section
set_option linter.unusedSimpArgs false
set_option linter.unusedVariables false
namespace TryzE
open Go.Eng Go.Proofs Num
theorem u64ok_of {x : Int} (h0 : 0 ≤ x) (h1 : x < (18446744073709551616 : Int)) : u64ok x = true := by simp [u64ok, h0, h1]
theorem add64_spec {x y c : Int} (hx : 0 ≤ x ∧ x < (18446744073709551616 : Int)) (hy : 0 ≤ y ∧ y < (18446744073709551616 : Int)) (hc : c = 0 ∨ c = 1) : ∀ k, 1 ≤ k → ∀ F : Int × Int → Option Res, callT (C k 154 [(.v (.c (.int .u64 x))), (.v (.c (.int .u64 y))), (.v (.c (.int .u64 c)))]) sh154 F = F ((x + y + c) % (18446744073709551616 : Int), (x + y + c) / (18446744073709551616 : Int)) := by
  intro k hk F
  obtain ⟨k, rfl, hk'⟩ := succOf hk
  have h : (u64ok x && u64ok y && (decide (c = 0) || decide (c = 1))) = true := by rw [u64ok_of hx.1 hx.2, u64ok_of hy.1 hy.2]; simpa using hc
  have : C (k + 1) 154 [(.v (.c (.int .u64 x))), (.v (.c (.int .u64 y))), (.v (.c (.int .u64 c)))] = some ⟨[.v (.c (.int .u64 ((x + y + c) % 18446744073709551616))), .v (.c (.int .u64 ((x + y + c) / 18446744073709551616)))], []⟩ := by
    rw [C_X (h := xAdd64) rfl]
    unfold xAdd64
    simp only [h]
  rw [this]; rfl
theorem mul64_spec {x y : Int} (hx : 0 ≤ x ∧ x < (18446744073709551616 : Int)) (hy : 0 ≤ y ∧ y < (18446744073709551616 : Int)) : ∀ k, 1 ≤ k → ∀ F : Int × Int → Option Res, callT (C k 145 [(.v (.c (.int .u64 x))), (.v (.c (.int .u64 y)))]) sh145 F = F (x * y / (18446744073709551616 : Int), x * y % (18446744073709551616 : Int)) := by
  intro k hk F
  obtain ⟨k, rfl, hk'⟩ := succOf hk
  have h : (u64ok x && u64ok y) = true := by rw [u64ok_of hx.1 hx.2, u64ok_of hy.1 hy.2]; rfl
  have : C (k + 1) 145 [(.v (.c (.int .u64 x))), (.v (.c (.int .u64 y)))] = some ⟨[.v (.c (.int .u64 (x * y / 18446744073709551616))), .v (.c (.int .u64 (x * y % 18446744073709551616)))], []⟩ := by
    rw [C_X (h := xMul64) rfl]
    unfold xMul64
    simp only [h]
  rw [this]; rfl
/-! ## Adding -/
theorem add_loop {a b : List Int} (ha : Dg (18446744073709551616 : Int) a) (hb : Dg (18446744073709551616 : Int) b) {N : Nat} (hN : N < 1000000000) : ∀ (r i : Nat) (c : Int) (out : List Int), i + r = N → out.length = N → Dg (18446744073709551616 : Int) out → (c = 0 ∨ c = 1) →
    val (18446744073709551616 : Int) (out.take i) + (18446744073709551616 : Int) ^ i * c = val (18446744073709551616 : Int) (a.take i) + val (18446744073709551616 : Int) (b.take i) → ∀ k n, 2 ≤ k → r + 1 ≤ n →
    ∃ (out' : List Int) (c' : Int), out'.length = N ∧ Dg (18446744073709551616 : Int) out' ∧ (c' = 0 ∨ c' = 1) ∧ val (18446744073709551616 : Int) out' + (18446744073709551616 : Int) ^ N * c' = val (18446744073709551616 : Int) (a.take N) + val (18446744073709551616 : Int) (b.take N) ∧
      natNatAdd.l0 k n c (N : Int) (i : Int) a b out = callT (C k 110 [(.v (.c (.sl (.int .u64) out')))]) sh110 fun (y4 : List Int) => (some ⟨[(.v (.agg [(.sl (.int .u64) y4)]))], []⟩) := by
  intro r
  induction r with
  | zero =>
    intro i c out hi ho hd hc hv k n hk hn
    obtain ⟨n, rfl, hn'⟩ := succOf hn
    have : i = N := by omega
    subst this
    refine ⟨out, c, ho, hd, hc, ?_, ?_⟩
    · rw [← hv, List.take_of_length_le (by omega)]
    · rw [natNatAdd.l0_succ]
      simp only [iteA_eq]
      rw [if_neg (by simp)]
  | succ r ih =>
    intro i c out hi ho hd hc hv k n hk hn
    obtain ⟨n, rfl, hn'⟩ := succOf hn
    have xa := ha.getD (by decide) i
    have xb := hb.getD (by decide) i
    have hlt : i < out.length := by omega
    obtain ⟨out', c', r1, r2, r3, r4, r5⟩ := ih (i + 1) ((a.getD i 0 + b.getD i 0 + c) / (18446744073709551616 : Int)) (out.set i ((a.getD i 0 + b.getD i 0 + c) % (18446744073709551616 : Int))) (by omega) (by simpa using ho) (hd.set i (by omega) (by omega)) (by omega) (by
      rw [val_take_succ, val_take_succ, val_take_succ, take_set_self, getD_set_self hlt, Int.pow_succ]
      have e : (a.getD i 0 + b.getD i 0 + c) % (18446744073709551616 : Int) + (18446744073709551616 : Int) * ((a.getD i 0 + b.getD i 0 + c) / (18446744073709551616 : Int)) = a.getD i 0 + b.getD i 0 + c := Int.emod_add_mul_ediv _ _
      have := congrArg ((18446744073709551616 : Int) ^ i * ·) e
      simp only [Int.mul_add, ← Int.mul_assoc] at this
      omega) k n hk hn'
    refine ⟨out', c', r1, r2, r3, r4, ?_⟩
    rw [← r5, natNatAdd.l0_succ]
    simp only [iteA_eq]
    rw [if_pos (by simp; omega), limb_spec _ _ k (by omega), limb_spec _ _ k (by omega), add64_spec xa xb hc k (by omega), if_pos (by omega), wi (by omega) (by omega)]
    simp only [Int.toNat_natCast]
    rfl
theorem val_take_le (l : List Int) {n : Nat} (h : l.length ≤ n) : val (18446744073709551616 : Int) (l.take n) = val (18446744073709551616 : Int) l := by rw [List.take_of_length_le h]
theorem add_spec (a b : Nat) (ha : (L a).length < 100000000) (hb : (L b).length < 100000000) : ∃ K, ∀ k, K ≤ k → ∀ F : List Int → Option Res, callT (C k 116 [(.v (.agg [(.sl (.int .u64) (L a))])), (.v (.agg [(.sl (.int .u64) (L b))]))]) sh116 F = F (L (a + b)) := by
  refine ⟨(L a).length + (L b).length + 10, fun k hk F => ?_⟩
  obtain ⟨k, rfl, hk'⟩ := succOf (n := (L a).length + (L b).length + 9) hk
  have hm : maxI ((L a).length : Int) ((L b).length : Int) = ((max (L a).length (L b).length : Nat) : Int) := by unfold maxI; split <;> omega
  have hN : Go.IntKind.i64.wrap (maxI ((L a).length : Int) ((L b).length : Int) + 1) = ((max (L a).length (L b).length + 1 : Nat) : Int) := by rw [hm, wi (by omega) (by omega)]; omega
  rw [natNatAdd.eq]
  simp only [iteA_eq, hN, Int.toNat_natCast, List.length_replicate]
  rw [if_pos (by omega)]
  generalize hM : max (L a).length (L b).length + 1 = N
  obtain ⟨out', c', r1, r2, r3, r4, r5⟩ := add_loop (L_dg a) (L_dg b) (N := N) (by omega) N 0 0 (List.replicate N 0) (by omega) (by simp) (Dg.replicate (by decide) N) (.inl rfl) (by simp [val]) k k (by omega) (by omega)
  rw [show natNatAdd.l0 k k 0 (N : Int) 0 (L a) (L b) (List.replicate N 0) = _ from r5]
  rw [val_take_le _ (by omega), val_take_le _ (by omega), L_val, L_val] at r4
  have h1 : (a : Int) + b < (18446744073709551616 : Int) ^ N := by
    have h2 := val_lt (B := (18446744073709551616 : Int)) (by decide) (L_dg a)
    have h3 := val_lt (B := (18446744073709551616 : Int)) (by decide) (L_dg b)
    rw [L_val] at h2 h3
    obtain ⟨M, rfl⟩ : ∃ M, N = M + 1 := ⟨max (L a).length (L b).length, hM.symm⟩
    have h4 : (18446744073709551616 : Int) ^ (L a).length ≤ (18446744073709551616 : Int) ^ M := pow_mono (by decide) (by omega)
    have h5 : (18446744073709551616 : Int) ^ (L b).length ≤ (18446744073709551616 : Int) ^ M := pow_mono (by decide) (by omega)
    have h7 : 0 < (18446744073709551616 : Int) ^ M := Int.pow_pos (by decide)
    rw [Int.pow_succ]
    omega
  have h8 := val_nonneg (B := (18446744073709551616 : Int)) (by decide) r2
  have h9 : c' = 0 := by
    rcases r3 with h | h
    · exact h
    · subst h; omega
  subst h9
  rw [trimmed_spec out' (a + b) r2 (by omega) (by omega) k (by omega)]
  rfl
end TryzE
end
section
set_option linter.unusedSimpArgs false
set_option linter.unusedVariables false
namespace TryzE
open Go.Eng Go.Proofs Num
theorem row_step {x o c : Int} (hx0 : 0 ≤ x) (hx : x ≤ ((18446744073709551616 : Int) - 1) * ((18446744073709551616 : Int) - 1)) (ho : 0 ≤ o ∧ o < (18446744073709551616 : Int)) (hc : 0 ≤ c ∧ c < (18446744073709551616 : Int)) :
    (o + (x % (18446744073709551616 : Int) + c + 0) % (18446744073709551616 : Int) + 0) % (18446744073709551616 : Int) + (18446744073709551616 : Int) * (x / (18446744073709551616 : Int) + (x % (18446744073709551616 : Int) + c + 0) / (18446744073709551616 : Int) + (o + (x % (18446744073709551616 : Int) + c + 0) % (18446744073709551616 : Int) + 0) / (18446744073709551616 : Int)) = o + x + c ∧
    0 ≤ x / (18446744073709551616 : Int) + (x % (18446744073709551616 : Int) + c + 0) / (18446744073709551616 : Int) ∧ x / (18446744073709551616 : Int) + (x % (18446744073709551616 : Int) + c + 0) / (18446744073709551616 : Int) < (18446744073709551616 : Int) ∧
    0 ≤ x / (18446744073709551616 : Int) + (x % (18446744073709551616 : Int) + c + 0) / (18446744073709551616 : Int) + (o + (x % (18446744073709551616 : Int) + c + 0) % (18446744073709551616 : Int) + 0) / (18446744073709551616 : Int) ∧
    x / (18446744073709551616 : Int) + (x % (18446744073709551616 : Int) + c + 0) / (18446744073709551616 : Int) + (o + (x % (18446744073709551616 : Int) + c + 0) % (18446744073709551616 : Int) + 0) / (18446744073709551616 : Int) < (18446744073709551616 : Int) := by
  omega
theorem row_loop {m : Int} (hm : 0 ≤ m ∧ m < (18446744073709551616 : Int)) {a out0 : List Int} (ha : Dg (18446744073709551616 : Int) a) {N : Nat} (hN : N < 1000000000) (haN : a.length < N) (h0 : out0.getD a.length 0 = 0) :
    ∀ (r i : Nat) (c : Int) (out : List Int), i + r = a.length → out.length = N → Dg (18446744073709551616 : Int) out → (0 ≤ c ∧ c < (18446744073709551616 : Int)) →
    val (18446744073709551616 : Int) (out.take i) + (18446744073709551616 : Int) ^ i * c = val (18446744073709551616 : Int) (out0.take i) + m * val (18446744073709551616 : Int) (a.take i) → (∀ x, i ≤ x → out.getD x 0 = out0.getD x 0) → ∀ k n, 2 ≤ k → r + 1 ≤ n →
    ∃ (out' : List Int), out'.length = N ∧ Dg (18446744073709551616 : Int) out' ∧ val (18446744073709551616 : Int) (out'.take (a.length + 1)) = val (18446744073709551616 : Int) (out0.take a.length) + m * val (18446744073709551616 : Int) a ∧ (∀ x, a.length < x → out'.getD x 0 = out0.getD x 0) ∧
      natNatRow.l0 k n m c a (a.length : Int) (i : Int) a out = some ⟨[], [⟨(.int .u64), out'⟩]⟩ := by
  intro r
  induction r with
  | zero =>
    intro i c out hi ho hd hc hv hz k n hk hn
    obtain ⟨n, rfl, hn'⟩ := succOf hn
    have : i = a.length := by omega
    subst this
    have hlt : a.length < out.length := by omega
    refine ⟨out.set a.length c, by simpa using ho, hd.set _ hc.1 hc.2, ?_, ?_, ?_⟩
    · rw [val_take_succ, take_set_self, getD_set_self hlt, hv, List.take_of_length_le (Nat.le_refl a.length)]
    · intro x hx
      rw [getD_set_ne (by omega), hz x (by omega)]
    · rw [natNatRow.l0_succ]
      simp only [iteA_eq]
      rw [if_neg (by simp), if_pos (by omega), if_pos (by omega)]
      simp only [Int.toNat_natCast]
      rw [hz _ (Nat.le_refl _), h0, wu, show (0 + c) % (18446744073709551616 : Int) = c by omega]
  | succ r ih =>
    intro i c out hi ho hd hc hv hz k n hk hn
    obtain ⟨n, rfl, hn'⟩ := succOf hn
    have xa := ha.getD (by decide) i
    have xo := hd.getD (by decide) i
    have hlt : i < out.length := by omega
    have hx0 : 0 ≤ m * a.getD i 0 := Int.mul_nonneg hm.1 xa.1
    have hx1 : m * a.getD i 0 ≤ ((18446744073709551616 : Int) - 1) * ((18446744073709551616 : Int) - 1) := Int.mul_le_mul (by omega) (by omega) xa.1 (by omega)
    obtain ⟨s1, s2, s3, s4, s5⟩ := row_step hx0 hx1 xo hc
    generalize hT : m * a.getD i 0 = T at *
    obtain ⟨out', r1, r2, r3, r4, r5⟩ := ih (i + 1) (T / (18446744073709551616 : Int) + (T % (18446744073709551616 : Int) + c + 0) / (18446744073709551616 : Int) + (out.getD i 0 + (T % (18446744073709551616 : Int) + c + 0) % (18446744073709551616 : Int) + 0) / (18446744073709551616 : Int)) (out.set i ((out.getD i 0 + (T % (18446744073709551616 : Int) + c + 0) % (18446744073709551616 : Int) + 0) % (18446744073709551616 : Int))) (by omega) (by simpa using ho) (hd.set i (by omega) (by omega)) ⟨s4, s5⟩ (by
      rw [val_take_succ, val_take_succ, val_take_succ, take_set_self, getD_set_self hlt, Int.pow_succ, Int.mul_add m, ← hz i (Nat.le_refl _)]
      have := congrArg ((18446744073709551616 : Int) ^ i * ·) s1
      simp only [Int.mul_add] at this
      have e1 : m * ((18446744073709551616 : Int) ^ i * a.getD i 0) = (18446744073709551616 : Int) ^ i * T := by rw [← hT]; ac_rfl
      simp only [Int.mul_add, Int.mul_assoc]
      omega) (by
      intro x hx
      rw [getD_set_ne (by omega), hz x (by omega)]) k n hk hn'
    refine ⟨out', r1, r2, r3, r4, ?_⟩
    rw [← r5, natNatRow.l0_succ]
    simp only [iteA_eq, Int.toNat_natCast]
    rw [if_pos (by simp; omega), if_pos (by omega), mul64_spec hm xa k (by omega), hT, add64_spec (by omega) hc (.inl rfl) k (by omega), if_pos (by omega), add64_spec xo (by omega) (.inl rfl) k (by omega), if_pos (by omega)]
    simp only [wu]
    rw [wi (by omega) (by omega), Int.emod_eq_of_lt s2 s3, Int.emod_eq_of_lt s4 s5]
    rfl
theorem row_spec {m : Int} (hm : 0 ≤ m ∧ m < (18446744073709551616 : Int)) {a out : List Int} (ha : Dg (18446744073709551616 : Int) a) (hd : Dg (18446744073709551616 : Int) out) (hN : out.length < 1000000000) (haN : a.length < out.length) (h0 : out.getD a.length 0 = 0) (k : Nat) (hk : a.length + 4 ≤ k) :
    ∃ (out' : List Int), out'.length = out.length ∧ Dg (18446744073709551616 : Int) out' ∧ val (18446744073709551616 : Int) (out'.take (a.length + 1)) = val (18446744073709551616 : Int) (out.take a.length) + m * val (18446744073709551616 : Int) a ∧ (∀ x, a.length < x → out'.getD x 0 = out.getD x 0) ∧
      ∀ F : List Int → Option Res, callT (C k 130 [(.v (.agg [(.sl (.int .u64) a)])), (.v (.c (.int .u64 m))), (.lent ⟨(.int .u64), out⟩)]) sh130 F = F out' := by
  obtain ⟨k, rfl, hk'⟩ := succOf (n := a.length + 3) hk
  obtain ⟨out', r1, r2, r3, r4, r5⟩ := row_loop hm ha (N := out.length) hN haN h0 a.length 0 0 out (by omega) rfl hd (by omega) (by simp [val]) (fun _ _ => rfl) k k (by omega) (by omega)
  refine ⟨out', r1, r2, r3, r4, fun F => ?_⟩
  rw [natNatRow.eq, show natNatRow.l0 k k m 0 a (a.length : Int) 0 a out = _ from r5]
  rfl
/-! ## Multiplying -/
theorem getD_drop (l : List Int) (i j : Nat) : (l.drop i).getD j 0 = l.getD (i + j) 0 := by simp [List.getD_eq_getElem?_getD]
theorem getD_app_right {l m : List Int} {j : Nat} (h : l.length ≤ j) : (l ++ m).getD j 0 = m.getD (j - l.length) 0 := by simp [List.getD_eq_getElem?_getD, List.getElem?_append_right h]
theorem val_take_add {B : Int} (l : List Int) (i j : Nat) (h : i ≤ l.length) : val B (l.take (i + j)) = val B (l.take i) + B ^ i * val B ((l.drop i).take j) := by
  rw [List.take_add, val_append, List.length_take, Nat.min_eq_left h]
theorem mul_loop {a b : List Int} (ha : Dg (18446744073709551616 : Int) a) (hb : Dg (18446744073709551616 : Int) b) (hN : a.length + b.length + 1 < 1000000000) : ∀ (r i : Nat) (out : List Int), i + r = b.length → out.length = a.length + b.length + 1 → Dg (18446744073709551616 : Int) out →
    val (18446744073709551616 : Int) (out.take (i + a.length)) = val (18446744073709551616 : Int) a * val (18446744073709551616 : Int) (b.take i) → (∀ x, i + a.length ≤ x → out.getD x 0 = 0) → ∀ k n, a.length + 4 ≤ k → r + 1 ≤ n →
    ∃ (out' : List Int), out'.length = a.length + b.length + 1 ∧ Dg (18446744073709551616 : Int) out' ∧ val (18446744073709551616 : Int) out' = val (18446744073709551616 : Int) a * val (18446744073709551616 : Int) b ∧
      natNatMul.l0 k n b (b.length : Int) (i : Int) a out = callT (C k 110 [(.v (.c (.sl (.int .u64) out')))]) sh110 fun (y4 : List Int) => (some ⟨[(.v (.agg [(.sl (.int .u64) y4)]))], []⟩) := by
  intro r
  induction r with
  | zero =>
    intro i out hi ho hd hv hz k n hk hn
    obtain ⟨n, rfl, hn'⟩ := succOf hn
    have : i = b.length := by omega
    subst this
    refine ⟨out, ho, hd, ?_, ?_⟩
    · have h1 := val_take_succ (B := (18446744073709551616 : Int)) out (b.length + a.length)
      rw [hz _ (Nat.le_refl _), List.take_of_length_le (by omega), hv, List.take_of_length_le (Nat.le_refl b.length)] at h1
      rw [h1]; omega
    · rw [natNatMul.l0_succ]
      simp only [iteA_eq]
      rw [if_neg (by simp)]
  | succ r ih =>
    intro i out hi ho hd hv hz k n hk hn
    obtain ⟨n, rfl, hn'⟩ := succOf hn
    have xb := hb.getD (by decide) i
    obtain ⟨y, y1, y2, y3, y4, y5⟩ := row_spec xb ha (hd.drop i) (by simp; omega) (by simp; omega) (by rw [getD_drop]; exact hz _ (Nat.le_refl _)) k hk
    have hyl : y.length = out.length - i := by rw [y1, List.length_drop]
    obtain ⟨out', r1, r2, r3, r5⟩ := ih (i + 1) (out.take i ++ y) (by omega) (by simp; omega) ((hd.take i).append y2) (by
      have e : i + 1 + a.length = i + (a.length + 1) := by omega
      have tl : (out.take i ++ y).take i = out.take i := by rw [List.take_append_of_le_length (by simp; omega), List.take_of_length_le (by simp; omega)]
      have dl : (out.take i ++ y).drop i = y := by rw [List.drop_append_of_le_length (by simp; omega), List.drop_of_length_le (by simp; omega)]; rfl
      rw [e, val_take_add _ _ _ (by simp; omega), tl, dl, y3, val_take_succ, Int.mul_add, Int.mul_add, ← hv, val_take_add out i a.length (by omega)]
      have : (18446744073709551616 : Int) ^ i * (b.getD i 0 * val (18446744073709551616 : Int) a) = val (18446744073709551616 : Int) a * ((18446744073709551616 : Int) ^ i * b.getD i 0) := by ac_rfl
      rw [this]; omega) (by
      intro x hx
      have li : (out.take i).length = i := by simp; omega
      rw [getD_app_right (by omega), li, y4 _ (by omega), getD_drop]
      exact hz _ (by omega)) k n hk hn'
    refine ⟨out', r1, r2, r3, ?_⟩
    rw [← r5, natNatMul.l0_succ]
    simp only [iteA_eq, Int.toNat_natCast, Nat.zero_add]
    have tk : (out.drop i).take (out.length - i) = out.drop i := List.take_of_length_le (by simp)
    have dr : out.drop (i + (out.length - i)) = [] := List.drop_of_length_le (by omega)
    rw [if_pos (by simp; omega), if_pos (by omega), if_pos (by omega), if_pos (by omega), tk, y5, wi (by omega) (by omega), dr, List.append_nil]
    rfl
theorem mul_spec (a b : Nat) (ha : (L a).length < 100000000) (hb : (L b).length < 100000000) : ∃ K, ∀ k, K ≤ k → ∀ F : List Int → Option Res, callT (C k 80 [(.v (.agg [(.sl (.int .u64) (L a))])), (.v (.agg [(.sl (.int .u64) (L b))]))]) sh80 F = F (L (a * b)) := by
  refine ⟨(L a).length + (L b).length + 10, fun k hk F => ?_⟩
  obtain ⟨k, rfl, hk'⟩ := succOf (n := (L a).length + (L b).length + 9) hk
  have hN : Go.IntKind.i64.wrap (Go.IntKind.i64.wrap (((L a).length : Int) + ((L b).length : Int)) + 1) = (((L a).length + (L b).length + 1 : Nat) : Int) := by rw [wi (x := ((L a).length : Int) + _) (by omega) (by omega), wi (by omega) (by omega)]; omega
  rw [natNatMul.eq]
  simp only [iteA_eq, hN, Int.toNat_natCast]
  rw [if_pos (by omega)]
  obtain ⟨out', r1, r2, r3, r5⟩ := mul_loop (L_dg a) (L_dg b) (by omega) (L b).length 0 (List.replicate ((L a).length + (L b).length + 1) 0) (by omega) (by simp) (Dg.replicate (by decide) _) (by
    have h1 : List.take (0 + (L a).length) (List.replicate ((L a).length + (L b).length + 1) (0 : Int)) = List.replicate (L a).length 0 := by rw [List.take_replicate]; congr 1; omega
    rw [h1, val_replicate]; simp [val]) (by
    intro x _
    rw [List.getD_eq_getElem?_getD, List.getElem?_replicate]; split <;> rfl) k k (by omega) (by omega)
  rw [show natNatMul.l0 k k (L b) ((L b).length : Int) 0 (L a) (List.replicate ((L a).length + (L b).length + 1) 0) = _ from r5]
  rw [L_val, L_val] at r3
  rw [trimmed_spec out' (a * b) r2 (by rw [r3, Int.natCast_mul]) (by omega) k (by omega)]
  rfl
end TryzE
end
section
set_option linter.unusedSimpArgs false
set_option linter.unusedVariables false
namespace TryzE
open Go.Eng Go.Proofs Num
theorem L_mono {n m : Nat} (h : n ≤ m) : (L n).length ≤ (L m).length := L_len (Nat.lt_of_le_of_lt h (L_lt m))
theorem and1 (e : Nat) (h : e < 9223372036854775808) : andI .i64 (e : Int) 1 = ((e % 2 : Nat) : Int) := by
  unfold andI
  have h1 : (BitVec.ofInt Go.IntKind.i64.bits (e : Int) &&& BitVec.ofInt Go.IntKind.i64.bits 1).toNat = e % 2 := by
    rw [BitVec.toNat_and]
    have : (BitVec.ofInt Go.IntKind.i64.bits (e : Int)).toNat = e := by
      show (BitVec.ofInt 64 (e : Int)).toNat = e
      rw [BitVec.toNat_ofInt]; omega
    rw [this, show (BitVec.ofInt Go.IntKind.i64.bits 1).toNat = 1 from rfl, Nat.and_one_is_mod]
  rw [h1, wi (by omega) (by omega)]
theorem shr1 (e : Nat) : shrI .i64 (e : Int) 1 = ((e / 2 : Nat) : Int) := by
  unfold shrI
  rw [show (2 : Int) ^ min (1 : Int).toNat Go.IntKind.i64.bits = 2 from rfl, Int.fdiv_eq_ediv_of_nonneg _ (by decide)]
  omega
theorem power_loop (M : Nat) (hM : (L M).length < 100000000) : ∀ (e : Nat), e < 1000000 → ∀ (b r : Nat), b ≤ M → r ≤ M → (max b 1) ^ e ≤ M → r * (max b 1) ^ e ≤ M →
    ∃ K, ∀ k, K ≤ k → ∀ n, K ≤ n → ∀ F : List Int → Option Res, callT (digitsPower.l0 k n (e : Int) (L b) (L r)) sh157 F = F (L (r * b ^ e)) := by
  intro e
  induction e using Nat.strongRecOn with
  | ind e ih =>
    intro he b r hb hr h1 h2
    by_cases h0 : e = 0
    · subst h0
      refine ⟨1, fun k hk n hn F => ?_⟩
      obtain ⟨n, rfl, hn'⟩ := succOf (n := 0) hn
      rw [digitsPower.l0_succ]
      simp only [iteA_eq]
      rw [if_neg (by simp)]
      simp only [Nat.pow_zero, Nat.mul_one]; rfl
    · -- after the multiplication
      have hb1 : 1 ≤ max b 1 := by omega
      have hpos : ∀ j, 1 ≤ (max b 1) ^ j := fun j => Nat.one_le_pow _ _ hb1
      have step : ∀ r' : Nat, r' ≤ M → r' * (max b 1) ^ (2 * (e / 2)) ≤ M → ∃ K, ∀ k, K ≤ k → ∀ n, K ≤ n → ∀ F : List Int → Option Res, callT (digitsPower.j6 k n (e : Int) (L b) (L r')) sh157 F = F (L (r' * b ^ (2 * (e / 2)))) := by
        intro r' hr' h2'
        have hM2 : (max b 1) ^ (2 * (e / 2)) ≤ M := Nat.le_trans (Nat.pow_le_pow_right hb1 (by omega)) h1
        by_cases h3 : 1 < e
        · have hbb : b * b ≤ M := by
            have : b * b ≤ (max b 1) ^ 2 := by rw [Nat.pow_two]; exact Nat.mul_le_mul (by omega) (by omega)
            exact Nat.le_trans this (Nat.le_trans (Nat.pow_le_pow_right hb1 (by omega)) h1)
          have hmx : max (b * b) 1 = (max b 1) ^ 2 := by
            rw [Nat.pow_two]
            rcases Nat.eq_zero_or_pos b with hz | hz
            · subst hz; rfl
            · have : 1 ≤ b * b := Nat.mul_pos hz hz
              rw [Nat.max_eq_left this, Nat.max_eq_left hz]
          obtain ⟨K1, hK1⟩ := mul_spec b b (by have := L_mono hb; omega) (by have := L_mono hb; omega)
          obtain ⟨K2, hK2⟩ := ih (e / 2) (by omega) (by omega) (b * b) r' hbb hr' (by rw [hmx, ← Nat.pow_mul]; exact hM2) (by rw [hmx, ← Nat.pow_mul]; exact h2')
          refine ⟨K1 + K2, fun k hk n hn F => ?_⟩
          rw [digitsPower.j6_eq]
          simp only [iteA_eq]
          rw [if_pos (by simp; omega), hK1 k (by omega), shr1, hK2 k (by omega) n (by omega), ← Nat.pow_two, ← Nat.pow_mul]
        · have he1 : e = 1 := by omega
          subst he1
          obtain ⟨K2, hK2⟩ := ih 0 (by omega) (by omega) b r' hb hr' (by simpa using (Nat.le_trans hb1 (by have := h1; simp only [Nat.pow_one] at this; exact this))) (by simpa using hr')
          refine ⟨K2, fun k hk n hn F => ?_⟩
          rw [digitsPower.j6_eq]
          simp only [iteA_eq]
          rw [if_neg (by decide), shr1]
          exact hK2 k (by omega) n (by omega) F
      by_cases ho : e % 2 = 1
      · have hrb : r * b ≤ M := by
          have h4 : r * b ≤ r * (max b 1) ^ 1 := Nat.mul_le_mul_left r (by rw [Nat.pow_one]; omega)
          exact Nat.le_trans h4 (Nat.le_trans (Nat.mul_le_mul_left r (Nat.pow_le_pow_right hb1 (by omega))) h2)
        have hrb2 : r * b * (max b 1) ^ (2 * (e / 2)) ≤ M := by
          have h4 : r * b * (max b 1) ^ (2 * (e / 2)) ≤ r * (max b 1) * (max b 1) ^ (2 * (e / 2)) := Nat.mul_le_mul_right _ (Nat.mul_le_mul_left r (by omega))
          rw [Nat.mul_assoc r (max b 1), ← Nat.pow_succ', show (2 * (e / 2)).succ = e by omega] at h4
          exact Nat.le_trans h4 h2
        obtain ⟨K1, hK1⟩ := mul_spec r b (by have := L_mono hr; omega) (by have := L_mono hb; omega)
        obtain ⟨K2, hK2⟩ := step (r * b) hrb hrb2
        refine ⟨K1 + K2 + 1, fun k hk n hn F => ?_⟩
        obtain ⟨n, rfl, hn'⟩ := succOf (n := K1 + K2) hn
        rw [digitsPower.l0_succ]
        simp only [iteA_eq]
        rw [if_pos (by simp; omega), and1 e (by omega), if_pos (by rw [ho]; rfl), hK1 k (by omega), hK2 k (by omega) n (by omega)]
        congr 2
        rw [Nat.mul_assoc, ← Nat.pow_succ', show (2 * (e / 2)).succ = e by omega]
      · have hr2 : r * (max b 1) ^ (2 * (e / 2)) ≤ M := by rw [show 2 * (e / 2) = e by omega]; exact h2
        obtain ⟨K2, hK2⟩ := step r hr hr2
        refine ⟨K2 + 1, fun k hk n hn F => ?_⟩
        obtain ⟨n, rfl, hn'⟩ := succOf (n := K2) hn
        rw [digitsPower.l0_succ]
        simp only [iteA_eq]
        rw [if_pos (by simp; omega), and1 e (by omega), if_neg (by rw [show e % 2 = 0 by omega]; decide), hK2 k (by omega) n (by omega), show 2 * (e / 2) = e by omega]
theorem power_spec (M : Nat) (hM : (L M).length < 100000000) (b e : Nat) (he : e < 1000000) (hb : b ≤ M) (h1 : (max b 1) ^ e ≤ M) : ∃ K, ∀ k, K ≤ k → ∀ F : List Int → Option Res, callT (C k 157 [(.v (.agg [(.sl (.int .u64) (L b))])), (.v (.c (.int .i64 (e : Int))))]) sh157 F = F (L (b ^ e)) := by
  have hM1 : 1 ≤ M := Nat.le_trans (Nat.one_le_pow _ _ (by omega)) h1
  obtain ⟨K, hK⟩ := power_loop M hM e he b 1 hb hM1 h1 (by omega)
  refine ⟨K + 10, fun k hk F => ?_⟩
  obtain ⟨k, rfl, hk'⟩ := succOf (n := K + 9) hk
  rw [digitsPower.eq, of_spec [1] 1 (by intro d hd; simp at hd; omega) (by rfl) (by decide) k (by simp; omega), hK k (by omega) k (by omega), Nat.one_mul]
end TryzE
end
section
set_option linter.unusedSimpArgs false
set_option linter.unusedVariables false
namespace TryzE
open Go.Eng Go.Proofs Num
theorem bitLenN_ok : ∀ (k n : Nat), n < 2 ^ k → n < 2 ^ bitLenN k n ∧ bitLenN k n ≤ k
  | 0, n, h => by simp at h; subst h; simp [bitLenN]
  | k + 1, n, h => by
    unfold bitLenN
    by_cases h0 : n = 0
    · subst h0; simp
    · rw [if_neg h0]
      obtain ⟨h1, h2⟩ := bitLenN_ok k (n / 2) (by rw [Nat.pow_succ] at h; omega)
      rw [Nat.pow_succ]
      omega
theorem len64_spec {x : Int} (hx : 0 ≤ x ∧ x < (18446744073709551616 : Int)) : ∀ k, 1 ≤ k → ∀ F : Int → Option Res, callT (C k 170 [(.v (.c (.int .u64 x)))]) sh170 F = F (bitLenI x) := by
  intro k hk F
  obtain ⟨k, rfl, hk'⟩ := succOf hk
  have h := u64ok_of hx.1 hx.2
  have : C (k + 1) 170 [(.v (.c (.int .u64 x)))] = some ⟨[.v (.c (.int .i64 (bitLenI x)))], []⟩ := by
    rw [C_X (h := xLen64) rfl]
    unfold xLen64
    simp only [h]
  rw [this]; rfl
theorem bitLenI_ok {x : Int} (hx : 0 ≤ x ∧ x < (18446744073709551616 : Int)) : 0 ≤ bitLenI x ∧ bitLenI x ≤ 64 ∧ x < 2 ^ (bitLenI x).toNat := by
  have := bitLenN_ok 64 x.toNat (by rw [show (2 : Nat) ^ 64 = 18446744073709551616 from by decide]; omega)
  unfold bitLenI
  refine ⟨by omega, by omega, ?_⟩
  rw [Int.toNat_natCast]
  have h := this.1
  have h2 : ((2 ^ bitLenN 64 x.toNat : Nat) : Int) = 2 ^ bitLenN 64 x.toNat := by rw [Int.natCast_pow]; rfl
  omega
/-- the number of a number's bits -/
noncomputable def bitsV (n : Nat) : Int := if n = 0 then 0 else 64 * (((L n).length : Int) - 1) + bitLenI ((L n).getD ((L n).length - 1) 0)
theorem bits_spec (n : Nat) (hn : (L n).length < 100000000) : ∀ k, 4 ≤ k → ∀ F : Int → Option Res, callT (C k 156 [(.v (.agg [(.sl (.int .u64) (L n))]))]) sh156 F = F (bitsV n) := by
  intro k hk F
  obtain ⟨k, rfl, hk'⟩ := succOf (n := 3) hk
  rw [natNatBits.eq, zero_spec _ k (by omega)]
  simp only [iteA_eq]
  unfold bitsV
  by_cases h0 : n = 0
  · rw [if_pos (by rw [L_nil.2 h0]; rfl), if_pos h0]; rfl
  · have hl : 1 ≤ (L n).length := by
      rcases Nat.eq_zero_or_pos (L n).length with h | h
      · exact absurd (L_nil.1 (List.length_eq_zero_iff.1 h)) h0
      · exact h
    have hx := (L_dg n).getD (by decide) ((L n).length - 1)
    have e1 : Go.IntKind.i64.wrap (((L n).length : Int) - 1) = (((L n).length - 1 : Nat) : Int) := by rw [wi (by omega) (by omega)]; omega
    rw [if_neg (by rw [decide_eq_true_eq, L_nil]; exact h0), if_neg h0, e1, if_pos (by omega)]
    simp only [Int.toNat_natCast]
    rw [len64_spec hx k (by omega)]
    have hb := bitLenI_ok hx
    rw [wi (x := 64 * _) (by omega) (by omega), wi (by omega) (by omega)]
    show F _ = F _
    congr 1
    omega
theorem bitsV_ok (n : Nat) : 0 ≤ bitsV n ∧ bitsV n ≤ 64 * (L n).length ∧ n < 2 ^ (bitsV n).toNat := by
  unfold bitsV
  by_cases h0 : n = 0
  · rw [if_pos h0]; subst h0; exact ⟨Int.le_refl _, by omega, by decide⟩
  · have hl : 1 ≤ (L n).length := by
      rcases Nat.eq_zero_or_pos (L n).length with h | h
      · exact absurd (L_nil.1 (List.length_eq_zero_iff.1 h)) h0
      · exact h
    have hx := (L_dg n).getD (by decide) ((L n).length - 1)
    have hb := bitLenI_ok hx
    rw [if_neg h0]
    refine ⟨by omega, by omega, ?_⟩
    obtain ⟨m, hm⟩ : ∃ m, (L n).length = m + 1 := ⟨(L n).length - 1, by omega⟩
    rw [hm] at hx hb ⊢
    simp only [Nat.add_sub_cancel] at hx hb ⊢
    have h1 := val_take_succ (B := (18446744073709551616 : Int)) (L n) m
    rw [List.take_of_length_le (by omega), L_val] at h1
    have h2 : val (18446744073709551616 : Int) ((L n).take m) < (18446744073709551616 : Int) ^ m := by
      have := val_lt (B := (18446744073709551616 : Int)) (by decide) ((L_dg n).take m)
      rwa [List.length_take, Nat.min_eq_left (by omega)] at this
    have e : (64 * (((m + 1 : Nat) : Int) - 1) + bitLenI ((L n).getD m 0)).toNat = 64 * m + (bitLenI ((L n).getD m 0)).toNat := by omega
    rw [e, Nat.pow_add, Nat.pow_mul]
    have h3 : (18446744073709551616 : Int) ^ m * ((L n).getD m 0) + (18446744073709551616 : Int) ^ m ≤ (18446744073709551616 : Int) ^ m * 2 ^ (bitLenI ((L n).getD m 0)).toNat := by
      have := Int.mul_le_mul_of_nonneg_left (show (L n).getD m 0 + 1 ≤ 2 ^ (bitLenI ((L n).getD m 0)).toNat by omega) (Int.le_of_lt (show 0 < (18446744073709551616 : Int) ^ m from Int.pow_pos (by decide)))
      rw [Int.mul_add, Int.mul_one] at this
      exact this
    have h4 : (((2 ^ 64 : Nat) ^ m * 2 ^ (bitLenI ((L n).getD m 0)).toNat : Nat) : Int) = (18446744073709551616 : Int) ^ m * 2 ^ (bitLenI ((L n).getD m 0)).toNat := by
      rw [Int.natCast_mul, Int.natCast_pow, Int.natCast_pow]; rfl
    omega
/-! ## digits.Pow, digits.Ten -/
/-- the error's number and the answer of digits.Pow -/
noncomputable def powS (x : Nat) (e : Int) : Int := if e < 0 then 2 else if e > 1200 then 6 else if bitsV x * e > 262144 then 6 else 0
noncomputable def powV (x : Nat) (e : Int) : Nat := if powS x e = 0 then x ^ e.toNat else 0
theorem L_pow2 (j : Nat) : (L (2 ^ (64 * j))).length ≤ j + 1 := L_len (by
  rw [Nat.pow_mul, show (2 : Nat) ^ 64 = 18446744073709551616 from by decide]
  exact Nat.pow_lt_pow_right (by decide) (by omega))
theorem pow_spec (x : Nat) (e : Int) (hx : (L x).length < 1000) : ∃ K, ∀ k, K ≤ k → ∀ F : List Int × Int → Option Res, callT (C k 117 [(.v (.agg [(.sl (.int .u64) (L x))])), (.v (.c (.int .i64 e)))]) sh117 F = F (L (powV x e), powS x e) := by
  have hb := bitsV_ok x
  by_cases h1 : e < 0
  · refine ⟨1, fun k hk F => ?_⟩
    obtain ⟨k, rfl, hk'⟩ := succOf (n := 0) hk
    rw [digitsPow.eq]
    simp only [iteA_eq]
    rw [if_pos (by simpa using h1)]
    have : powS x e = 2 := by rw [powS, if_pos h1]
    rw [powV, this]; rfl
  by_cases h2 : e > 1200
  · refine ⟨1, fun k hk F => ?_⟩
    obtain ⟨k, rfl, hk'⟩ := succOf (n := 0) hk
    rw [digitsPow.eq]
    simp only [iteA_eq]
    rw [if_neg (by simpa using h1), if_neg (by simpa using h2)]
    have : powS x e = 6 := by rw [powS, if_neg h1, if_pos h2]
    rw [powV, this]; rfl
  have hm : bitsV x * e ≤ 64000 * 1200 := Int.mul_le_mul (by omega) (by omega) (by omega) (by omega)
  have hm0 : 0 ≤ bitsV x * e := Int.mul_nonneg hb.1 (by omega)
  have hw : Go.IntKind.i64.wrap (bitsV x * e) = bitsV x * e := wi (by omega) (by omega)
  by_cases h3 : bitsV x * e > 262144
  · refine ⟨5, fun k hk F => ?_⟩
    obtain ⟨k, rfl, hk'⟩ := succOf (n := 4) hk
    rw [digitsPow.eq, bits_spec x (by omega) k hk']
    simp only [iteA_eq, hw]
    rw [if_neg (by simpa using h1), if_pos (by simpa using h2), if_pos (by simpa using h3)]
    have : powS x e = 6 := by rw [powS, if_neg h1, if_neg h2, if_pos h3]
    rw [powV, this]; rfl
  · obtain ⟨n, rfl⟩ : ∃ n : Nat, e = n := ⟨e.toNat, by omega⟩
    have hp : ∀ E, E = 64 * 4096 → (max x 1) ^ n ≤ 2 ^ E := by
      intro E hE
      have : (max x 1) ^ n ≤ (2 ^ (bitsV x).toNat) ^ n := Nat.pow_le_pow_left (by have := Nat.one_le_pow (bitsV x).toNat 2 (by decide); omega) n
      rw [← Nat.pow_mul] at this
      refine Nat.le_trans this (Nat.pow_le_pow_right (by decide) ?_)
      have h4 : (((bitsV x).toNat * n : Nat) : Int) = bitsV x * n := by rw [Int.natCast_mul, Int.toNat_of_nonneg hb.1]
      omega
    obtain ⟨K, hK⟩ := power_spec (max x (2 ^ (64 * 4096))) (by
      rcases Nat.le_total x (2 ^ (64 * 4096)) with h | h
      · rw [Nat.max_eq_right h]; have := L_pow2 4096; omega
      · rw [Nat.max_eq_left h]; omega) x n (by omega) (Nat.le_max_left _ _) (Nat.le_trans (hp (64 * 4096) rfl) (Nat.le_max_right _ _))
    refine ⟨K + 5, fun k hk F => ?_⟩
    obtain ⟨k, rfl, hk'⟩ := succOf (n := K + 4) hk
    rw [digitsPow.eq, bits_spec x (by omega) k (by omega)]
    simp only [iteA_eq, hw]
    rw [if_neg (by simp), if_pos (by simpa using h2), if_neg (by simpa using h3), hK k (by omega)]
    have : powS x n = 0 := by rw [powS, if_neg h1, if_neg h2, if_neg h3]
    rw [powV, this]; rfl
def tenS (e : Int) : Int := if e < 0 then 2 else if e > 4096 then 6 else 0
def tenV (e : Int) : Nat := if tenS e = 0 then 10 ^ e.toNat else 0
theorem ten_spec (e : Int) : ∃ K, ∀ k, K ≤ k → ∀ F : List Int × Int → Option Res, callT (C k 153 [(.v (.c (.int .i64 e)))]) sh153 F = F (L (tenV e), tenS e) := by
  by_cases h1 : e < 0
  · refine ⟨1, fun k hk F => ?_⟩
    obtain ⟨k, rfl, hk'⟩ := succOf (n := 0) hk
    rw [digitsTen.eq]
    simp only [iteA_eq]
    rw [if_pos (by simpa using h1)]
    have : tenS e = 2 := by rw [tenS, if_pos h1]
    rw [tenV, this]; rfl
  by_cases h2 : e > 4096
  · refine ⟨1, fun k hk F => ?_⟩
    obtain ⟨k, rfl, hk'⟩ := succOf (n := 0) hk
    rw [digitsTen.eq]
    simp only [iteA_eq]
    rw [if_neg (by simpa using h1), if_pos (by simpa using h2)]
    have : tenS e = 6 := by rw [tenS, if_neg h1, if_pos h2]
    rw [tenV, this]; rfl
  · obtain ⟨n, rfl⟩ : ∃ n : Nat, e = n := ⟨e.toNat, by omega⟩
    have hp : ∀ E, E = 64 * 4096 → (max 10 1) ^ n ≤ 2 ^ E := by
      intro E hE
      have h4 : 10 ^ n ≤ (2 ^ 4) ^ n := Nat.pow_le_pow_left (by decide) n
      rw [← Nat.pow_mul] at h4
      exact Nat.le_trans h4 (Nat.pow_le_pow_right (by decide) (by omega))
    obtain ⟨K, hK⟩ := power_spec (2 ^ (64 * 4096)) (by have := L_pow2 4096; omega) 10 n (by omega) (by
      have := (show ∀ E, E = 64 * 4096 → 2 ^ 4 ≤ 2 ^ E from fun E hE => Nat.pow_le_pow_right (by decide) (by omega)) (64 * 4096) rfl
      omega) (hp (64 * 4096) rfl)
    refine ⟨K + 5, fun k hk F => ?_⟩
    obtain ⟨k, rfl, hk'⟩ := succOf (n := K + 4) hk
    rw [digitsTen.eq]
    simp only [iteA_eq]
    rw [if_neg (by simp), if_neg (by simpa using h2), of_spec [10] 10 (by intro d hd; simp at hd; omega) (by rfl) (by decide) k (by simp; omega), hK k (by omega)]
    have : tenS n = 0 := by rw [tenS, if_neg h1, if_neg h2]
    rw [tenV, this]; rfl
end TryzE
end
section
set_option linter.unusedSimpArgs false
set_option linter.unusedVariables false
namespace TryzE
open Go.Eng Go.Proofs Num
/-! ## Two limbs by one -/
theorem ediv_of {U v q : Int} (hv : 0 < v) (h1 : q * v ≤ U) (h2 : U < (q + 1) * v) : U / v = q := by
  have a : q ≤ U / v := (Int.le_ediv_iff_mul_le hv).2 h1
  have b : U / v < q + 1 := (Int.ediv_lt_iff_lt_mul hv).2 h2
  omega
/-- what one guess is like -/
structure Gs (v v1 v0 u w q r : Int) : Prop where
  hv : v = v1 * 4294967296 + v0
  h1 : 2147483648 ≤ v1 ∧ v1 < 4294967296
  h0 : 0 ≤ v0 ∧ v0 < 4294967296
  hu : 0 ≤ u ∧ u < v
  hw : 0 ≤ w ∧ w < 4294967296
  hq : q * v1 + r = u
  hr : 0 ≤ r ∧ r < 4294967296
  hq0 : 0 ≤ q ∧ q ≤ 4294967297
  up : u * 4294967296 + w < (q + 1) * v
theorem Gs.test {v v1 v0 u w q r : Int} (g : Gs v v1 v0 u w q r) : (q * v0 ≤ 4294967296 * r + w) ↔ (q * v ≤ u * 4294967296 + w) := by
  have e : q * v = (q * v1) * 4294967296 + q * v0 := by rw [g.hv, Int.mul_add, Int.mul_assoc]
  have := g.hq
  constructor <;> intro h <;> omega
theorem Gs.down {v v1 v0 u w q r : Int} (g : Gs v v1 v0 u w q r) (h : ¬ (q * v ≤ u * 4294967296 + w)) : 1 ≤ q ∧ u * 4294967296 + w < (q - 1 + 1) * v ∧ (q - 1) * v1 + (r + v1) = u := by
  refine ⟨?_, by rw [Int.sub_add_cancel]; omega, ?_⟩
  · have h1 := g.hq0.1
    have h2 := g.hu; have h3 := g.hw
    rcases Int.lt_or_le q 1 with h4 | h4
    · have : q = 0 := by omega
      subst this; omega
    · exact h4
  · rw [Int.sub_mul]; have := g.hq; omega
theorem Gs.big {v v1 v0 u w q r : Int} (g : Gs v v1 v0 u w q r) (h : 4294967296 ≤ q) : ¬ (q * v ≤ u * 4294967296 + w) := by
  have h1 := g.hu; have h2 := g.hw
  have := Int.mul_le_mul_of_nonneg_right h (show 0 ≤ v by omega)
  omega
/-- at the break the guess is right -/
theorem Gs.brk {v v1 v0 u w q r : Int} (g : Gs v v1 v0 u w q r) (h : ¬ (q * v ≤ u * 4294967296 + w)) (hb : 4294967296 ≤ r + v1) : (u * 4294967296 + w) / v = q - 1 := by
  have hd := g.down h
  refine ediv_of (by have := g.hu; omega) ?_ hd.2.1
  have e : (q - 1) * v = ((q - 1) * v1) * 4294967296 + (q - 1) * v0 := by rw [g.hv, Int.mul_add, Int.mul_assoc]
  have h2 : (q - 1) * v0 ≤ 4294967296 * 4294967295 := Int.mul_le_mul (by have := g.hq0; omega) (by have := g.h0; omega) g.h0.1 (by decide)
  have := hd.2.2
  have := g.hw
  omega
theorem Gs.ok {v v1 v0 u w q r : Int} (g : Gs v v1 v0 u w q r) (h : q * v ≤ u * 4294967296 + w) : (u * 4294967296 + w) / v = q := ediv_of (by have := g.hu; omega) h g.up
theorem Gs.next {v v1 v0 u w q r : Int} (g : Gs v v1 v0 u w q r) (h : ¬ (q * v ≤ u * 4294967296 + w)) (hb : r + v1 < 4294967296) : Gs v v1 v0 u w (q - 1) (r + v1) := by
  have hd := g.down h
  exact ⟨g.hv, g.h1, g.h0, g.hu, g.hw, hd.2.2, ⟨by have := g.hr; have := g.h1; omega, hb⟩, ⟨by omega, by have := g.hq0; omega⟩, hd.2.1⟩
theorem Gs.first {v v1 v0 u w : Int} (hv : v = v1 * 4294967296 + v0) (h1 : 2147483648 ≤ v1 ∧ v1 < 4294967296) (h0 : 0 ≤ v0 ∧ v0 < 4294967296) (hu : 0 ≤ u ∧ u < v) (hw : 0 ≤ w ∧ w < 4294967296) : Gs v v1 v0 u w (u / v1) (u - u / v1 * v1) := by
  have e : v1 * (u / v1) + u % v1 = u := Int.mul_ediv_add_emod u v1
  have m0 := Int.emod_nonneg u (show v1 ≠ 0 by omega)
  have m1 := Int.emod_lt_of_pos u (show 0 < v1 by omega)
  have hc : u / v1 * v1 = v1 * (u / v1) := Int.mul_comm ..
  have hq0 : 0 ≤ u / v1 := Int.ediv_nonneg hu.1 (by omega)
  have hq : u / v1 ≤ 4294967297 := by
    have : u / v1 < 4294967298 := (Int.ediv_lt_iff_lt_mul (by omega)).2 (by omega)
    omega
  refine ⟨hv, h1, h0, hu, hw, by omega, by omega, ⟨hq0, hq⟩, ?_⟩
  have h2 : u + 1 ≤ (u / v1 + 1) * v1 := by rw [Int.add_mul]; omega
  have h3 : (u + 1) * 4294967296 ≤ (u / v1 + 1) * v1 * 4294967296 := Int.mul_le_mul_of_nonneg_right h2 (by decide)
  have h4 : (u / v1 + 1) * v = (u / v1 + 1) * v1 * 4294967296 + (u / v1 + 1) * v0 := by rw [hv, Int.mul_add, Int.mul_assoc]
  have h5 : 0 ≤ (u / v1 + 1) * v0 := Int.mul_nonneg (by omega) h0.1
  omega
theorem div_l0 {v v1 v0 u w : Int} : ∀ (j : Nat) (q r : Int), Gs v v1 v0 u w q r → 4294967296 - r ≤ 2147483648 * j → ∀ (k n : Nat) (s u0 : Int), j ≤ n → 0 < j → bitsDiv64.l0 k n v s v1 v0 u w u0 q r = bitsDiv64.j21 k v s v1 v0 u w u0 ((u * 4294967296 + w) / v) := by
  intro j
  induction j with
  | zero => intro q r g hj k n s u0 hn h0; omega
  | succ j ih =>
    intro q r g hj k n s u0 hn h0
    obtain ⟨n, rfl, hn'⟩ := succOf hn
    have hv1 := g.h1; have hr := g.hr; have hq := g.hq0; have hv0 := g.h0; have hw := g.hw
    have dn : ¬ (q * v ≤ u * 4294967296 + w) → bitsDiv64.j18 k n v s v1 v0 u w u0 q r = bitsDiv64.j21 k v s v1 v0 u w u0 ((u * 4294967296 + w) / v) := by
      intro h
      have hd := g.down h
      rw [bitsDiv64.j18_eq]
      simp only [iteA_eq, wu]
      rw [Int.emod_eq_of_lt (a := r + v1) (by omega) (by omega), Int.emod_eq_of_lt (a := q - 1) (by omega) (by omega)]
      by_cases hb : r + v1 < 4294967296
      · rw [if_neg (by simpa using hb)]
        exact ih _ _ (g.next h hb) (by omega) k n s u0 hn' (by omega)
      · rw [if_pos (by simpa using hb), g.brk h (by omega)]
    rw [bitsDiv64.l0_succ]
    simp only [iteA_eq, wu]
    by_cases hb : 4294967296 ≤ q
    · rw [if_neg (by simpa using hb)]
      exact dn (g.big hb)
    · rw [if_pos (by simpa using hb)]
      have hqv : q * v0 ≤ 4294967295 * 4294967295 := Int.mul_le_mul (by omega) (by omega) hv0.1 (by decide)
      have hqv0 : 0 ≤ q * v0 := Int.mul_nonneg hq.1 hv0.1
      rw [Int.emod_eq_of_lt (a := q * v0) hqv0 (by omega), Int.emod_eq_of_lt (a := 4294967296 * r) (by omega) (by omega), Int.emod_eq_of_lt (a := 4294967296 * r + w) (by omega) (by omega)]
      by_cases ht : q * v0 ≤ 4294967296 * r + w
      · rw [if_neg (by simpa using ht), g.ok (g.test.1 ht)]
      · rw [if_pos (by simpa using ht)]
        exact dn (fun h => ht (g.test.2 h))
theorem div_l1 {v v1 v0 u w : Int} : ∀ (j : Nat) (q r : Int), Gs v v1 v0 u w q r → 4294967296 - r ≤ 2147483648 * j → ∀ (k n : Nat) (s q1 : Int), j ≤ n → 0 < j → bitsDiv64.l1 k n v s v1 v0 w q1 r u q = bitsDiv64.j28 k v s w q1 u ((u * 4294967296 + w) / v) := by
  intro j
  induction j with
  | zero => intro q r g hj k n s u0 hn h0; omega
  | succ j ih =>
    intro q r g hj k n s q1 hn h0
    obtain ⟨n, rfl, hn'⟩ := succOf hn
    have hv1 := g.h1; have hr := g.hr; have hq := g.hq0; have hv0 := g.h0; have hw := g.hw
    have dn : ¬ (q * v ≤ u * 4294967296 + w) → bitsDiv64.j25 k n v s v1 v0 w q1 r u q = bitsDiv64.j28 k v s w q1 u ((u * 4294967296 + w) / v) := by
      intro h
      have hd := g.down h
      rw [bitsDiv64.j25_eq]
      simp only [iteA_eq, wu]
      rw [Int.emod_eq_of_lt (a := r + v1) (by omega) (by omega), Int.emod_eq_of_lt (a := q - 1) (by omega) (by omega)]
      by_cases hb : r + v1 < 4294967296
      · rw [if_neg (by simpa using hb)]
        exact ih _ _ (g.next h hb) (by omega) k n s q1 hn' (by omega)
      · rw [if_pos (by simpa using hb), g.brk h (by omega)]
    rw [bitsDiv64.l1_succ]
    simp only [iteA_eq, wu]
    by_cases hb : 4294967296 ≤ q
    · rw [if_neg (by simpa using hb)]
      exact dn (g.big hb)
    · rw [if_pos (by simpa using hb)]
      have hqv : q * v0 ≤ 4294967295 * 4294967295 := Int.mul_le_mul (by omega) (by omega) hv0.1 (by decide)
      have hqv0 : 0 ≤ q * v0 := Int.mul_nonneg hq.1 hv0.1
      rw [Int.emod_eq_of_lt (a := q * v0) hqv0 (by omega), Int.emod_eq_of_lt (a := 4294967296 * r) (by omega) (by omega), Int.emod_eq_of_lt (a := 4294967296 * r + w) (by omega) (by omega)]
      by_cases ht : q * v0 ≤ 4294967296 * r + w
      · rw [if_neg (by simpa using ht), g.ok (g.test.1 ht)]
      · rw [if_pos (by simpa using ht)]
        exact dn (fun h => ht (g.test.2 h))
end TryzE
end
section
set_option linter.unusedSimpArgs false
set_option linter.unusedVariables false
namespace TryzE
open Go.Eng Go.Proofs Num
theorem bitLenN_lo : ∀ (k n : Nat), n < 2 ^ k → n ≠ 0 → 1 ≤ bitLenN k n ∧ 2 ^ (bitLenN k n - 1) ≤ n
  | 0, n, h, h0 => by simp at h; omega
  | k + 1, n, h, h0 => by
    unfold bitLenN
    rw [if_neg h0]
    refine ⟨by omega, ?_⟩
    by_cases h1 : n / 2 = 0
    · rw [h1]
      have : bitLenN k 0 = 0 := by cases k <;> rfl
      rw [this]; simp; omega
    · obtain ⟨h2, h3⟩ := bitLenN_lo k (n / 2) (by rw [Nat.pow_succ] at h; omega) h1
      rw [Nat.add_sub_cancel, show bitLenN k (n / 2) = bitLenN k (n / 2) - 1 + 1 by omega, Nat.pow_succ]
      omega
theorem lz_spec {x : Int} (hx : 0 ≤ x ∧ x < (18446744073709551616 : Int)) : ∀ k, 2 ≤ k → ∀ F : Int → Option Res, callT (C k 174 [(.v (.c (.int .u64 x)))]) sh174 F = F (64 - bitLenI x) := by
  intro k hk F
  obtain ⟨k, rfl, hk'⟩ := succOf hk
  have hb := bitLenI_ok hx
  rw [bitsLeadingZeros64.eq, len64_spec hx k hk', wi (by omega) (by omega)]
  rfl
theorem natOfInt64 {x : Int} (hx : 0 ≤ x ∧ x < (18446744073709551616 : Int)) : (BitVec.ofInt Go.IntKind.u64.bits x).toNat = x.toNat := by
  show (BitVec.ofInt 64 x).toNat = _
  rw [BitVec.toNat_ofInt]; omega
theorem or_add {a b : Int} (s : Nat) (ha : 0 ≤ a ∧ a * 2 ^ s < (18446744073709551616 : Int)) (hb : 0 ≤ b ∧ b < 2 ^ s) (hab : a * 2 ^ s + b < (18446744073709551616 : Int)) : orI .u64 (a * 2 ^ s) b = a * 2 ^ s + b := by
  have hp : (0 : Int) < 2 ^ s := Int.pow_pos (by decide)
  have h0 : 0 ≤ a * 2 ^ s := Int.mul_nonneg ha.1 (Int.le_of_lt hp)
  unfold orI
  rw [BitVec.toNat_or, natOfInt64 ⟨h0, ha.2⟩, natOfInt64 ⟨hb.1, by omega⟩]
  have e : (a * 2 ^ s).toNat = 2 ^ s * a.toNat := by
    rw [Int.toNat_mul ha.1 (Int.le_of_lt hp), Nat.mul_comm]; congr 1
  have hb' : b.toNat < 2 ^ s := by
    have : ((2 ^ s : Nat) : Int) = 2 ^ s := by rw [Int.natCast_pow]; rfl
    omega
  have hs : ((2 ^ s * a.toNat + b.toNat : Nat) : Int) = a * 2 ^ s + b := by
    rw [← e]; omega
  rw [e, ← Nat.two_pow_add_eq_or_of_lt hb', wu, hs, Int.emod_eq_of_lt (by omega) hab]
theorem and_mask {x : Int} (hx : 0 ≤ x ∧ x < (18446744073709551616 : Int)) : andI .u64 x 4294967295 = x % 4294967296 := by
  unfold andI
  rw [BitVec.toNat_and, natOfInt64 hx, natOfInt64 (x := 4294967295) (by decide), show (4294967295 : Int).toNat = 2 ^ 32 - 1 from rfl, Nat.and_two_pow_sub_one_eq_mod, wu]
  omega
theorem shl_eq {x : Int} (s : Nat) (hs : s ≤ 64) : shlI .u64 x (s : Int) = x * 2 ^ s % (18446744073709551616 : Int) := by
  unfold shlI
  rw [wu, show min ((s : Int).toNat) Go.IntKind.u64.bits = s from by rw [Int.toNat_natCast]; exact Nat.min_eq_left hs]
theorem shr_eq {x : Int} (s : Nat) (hs : s ≤ 64) : shrI .u64 x (s : Int) = x / 2 ^ s := by
  unfold shrI
  rw [show min ((s : Int).toNat) Go.IntKind.u64.bits = s from by rw [Int.toNat_natCast]; exact Nat.min_eq_left hs, Int.fdiv_eq_ediv_of_nonneg _ (Int.le_of_lt (Int.pow_pos (by decide)))]
theorem shr32 (x : Int) : shrI .u64 x 32 = x / 4294967296 := shr_eq (x := x) 32 (by decide)
theorem lz_ok {y : Int} (hy : 0 < y ∧ y < (18446744073709551616 : Int)) : ∃ s : Nat, 64 - bitLenI y = s ∧ s ≤ 63 ∧ 9223372036854775808 ≤ y * 2 ^ s ∧ y * 2 ^ s < (18446744073709551616 : Int) := by
  have hlt : y.toNat < 2 ^ 64 := by rw [show (2 : Nat) ^ 64 = 18446744073709551616 from by decide]; omega
  obtain ⟨h1, h2⟩ := bitLenN_ok 64 y.toNat hlt
  obtain ⟨h3, h4⟩ := bitLenN_lo 64 y.toNat hlt (by omega)
  refine ⟨64 - bitLenN 64 y.toNat, by unfold bitLenI; omega, by omega, ?_, ?_⟩
  · have h5 : 2 ^ (bitLenN 64 y.toNat - 1) * 2 ^ (64 - bitLenN 64 y.toNat) ≤ y.toNat * 2 ^ (64 - bitLenN 64 y.toNat) := Nat.mul_le_mul_right _ h4
    rw [← Nat.pow_add, show bitLenN 64 y.toNat - 1 + (64 - bitLenN 64 y.toNat) = 63 by omega] at h5
    have h6 : ((y.toNat * 2 ^ (64 - bitLenN 64 y.toNat) : Nat) : Int) = y * 2 ^ (64 - bitLenN 64 y.toNat) := by rw [Int.natCast_mul, Int.natCast_pow, Int.toNat_of_nonneg (by omega)]; rfl
    rw [← h6]
    have : (2 : Nat) ^ 63 = 9223372036854775808 := by decide
    omega
  · have h5 : y.toNat * 2 ^ (64 - bitLenN 64 y.toNat) < 2 ^ bitLenN 64 y.toNat * 2 ^ (64 - bitLenN 64 y.toNat) := Nat.mul_lt_mul_of_pos_right h1 (Nat.pow_pos (by decide))
    rw [← Nat.pow_add, show bitLenN 64 y.toNat + (64 - bitLenN 64 y.toNat) = 64 by omega] at h5
    have h6 : ((y.toNat * 2 ^ (64 - bitLenN 64 y.toNat) : Nat) : Int) = y * 2 ^ (64 - bitLenN 64 y.toNat) := by rw [Int.natCast_mul, Int.natCast_pow, Int.toNat_of_nonneg (by omega)]; rfl
    rw [← h6]
    have : (2 : Nat) ^ 64 = 18446744073709551616 := by decide
    omega
theorem div64_spec {hi lo y : Int} (hh : 0 ≤ hi ∧ hi < y) (hl : 0 ≤ lo ∧ lo < (18446744073709551616 : Int)) (hy : y < (18446744073709551616 : Int)) : ∀ k, 6 ≤ k → ∀ F : Int × Int → Option Res, callT (C k 173 [(.v (.c (.int .u64 hi))), (.v (.c (.int .u64 lo))), (.v (.c (.int .u64 y)))]) sh173 F = F ((hi * (18446744073709551616 : Int) + lo) / y, (hi * (18446744073709551616 : Int) + lo) % y) := by
  intro k hk F
  obtain ⟨k, rfl, hk'⟩ := succOf (n := 5) hk
  rw [bitsDiv64.eq]
  simp only [iteA_eq]
  rw [if_neg (by simp; omega), bitsDiv64.j3_eq]
  simp only [iteA_eq]
  rw [if_neg (by simp; omega), bitsDiv64.j5_eq]
  simp only [iteA_eq]
  by_cases h0 : hi = 0
  · subst h0
    have e1 : lo.tdiv y = lo / y := Int.tdiv_eq_ediv_of_nonneg hl.1
    have e2 : lo.tmod y = lo % y := Int.tmod_eq_emod_of_nonneg hl.1
    have e3 : lo / y ≤ lo := Int.ediv_le_self _ hl.1
    have e4 : 0 ≤ lo / y := Int.ediv_nonneg hl.1 (by omega)
    rw [if_pos (by rfl), if_neg (by omega), if_neg (by omega), e1, e2, wu, Int.emod_eq_of_lt e4 (by omega)]
    simp only [Int.zero_mul, Int.zero_add]
    rfl
  · rw [if_neg (by simpa using h0), lz_spec (by omega) k (by omega)]
    obtain ⟨s, es, hs, hv1, hv2⟩ := lz_ok (y := y) (by omega)
    rw [es]
    have ws : Go.IntKind.u64.wrap (s : Int) = s := by rw [wu]; omega
    have ws2 : Go.IntKind.u64.wrap (64 - (s : Int)) = ((64 - s : Nat) : Int) := by rw [wu]; omega
    simp only [ws, ws2, shl_eq s (by omega), shr_eq (64 - s) (by omega), shr32]
    have hP : (0 : Int) < 2 ^ s := Int.pow_pos (by decide)
    have hQ : (0 : Int) < 2 ^ (64 - s) := Int.pow_pos (by decide)
    have hPQ : (2 : Int) ^ (64 - s) * 2 ^ s = (18446744073709551616 : Int) := by rw [← Int.pow_add, show 64 - s + s = 64 by omega]; rfl
    have ev : y * 2 ^ s % (18446744073709551616 : Int) = y * 2 ^ s := Int.emod_eq_of_lt (by omega) hv2
    have hhP : hi * 2 ^ s + 2 ^ s ≤ y * 2 ^ s := by
      have := Int.mul_le_mul_of_nonneg_right (show hi + 1 ≤ y by omega) (Int.le_of_lt hP)
      rw [Int.add_mul, Int.one_mul] at this; exact this
    have hhP0 : 0 ≤ hi * 2 ^ s := Int.mul_nonneg hh.1 (Int.le_of_lt hP)
    have eh : hi * 2 ^ s % (18446744073709551616 : Int) = hi * 2 ^ s := Int.emod_eq_of_lt hhP0 (by omega)
    have hlQ0 : 0 ≤ lo / 2 ^ (64 - s) := Int.ediv_nonneg hl.1 (Int.le_of_lt hQ)
    have hlQ : lo / 2 ^ (64 - s) < 2 ^ s := (Int.ediv_lt_iff_lt_mul hQ).2 (by rw [Int.mul_comm, hPQ]; exact hl.2)
    have eo : orI .u64 (hi * 2 ^ s) (lo / 2 ^ (64 - s)) = hi * 2 ^ s + lo / 2 ^ (64 - s) := or_add s ⟨hh.1, by omega⟩ ⟨hlQ0, hlQ⟩ (by omega)
    have elo : lo * 2 ^ s = lo / 2 ^ (64 - s) * (18446744073709551616 : Int) + lo * 2 ^ s % (18446744073709551616 : Int) := by
      have a1 : lo = 2 ^ (64 - s) * (lo / 2 ^ (64 - s)) + lo % 2 ^ (64 - s) := (Int.mul_ediv_add_emod _ _).symm
      have a2 : lo * 2 ^ s = lo / 2 ^ (64 - s) * (18446744073709551616 : Int) + lo % 2 ^ (64 - s) * 2 ^ s := by
        have : lo * 2 ^ s = (2 ^ (64 - s) * (lo / 2 ^ (64 - s)) + lo % 2 ^ (64 - s)) * 2 ^ s := by rw [← a1]
        rw [this, Int.add_mul, ← hPQ]; congr 1; ac_rfl
      have a3 : 0 ≤ lo % 2 ^ (64 - s) * 2 ^ s := Int.mul_nonneg (Int.emod_nonneg _ (by omega)) (Int.le_of_lt hP)
      have a4 : lo % 2 ^ (64 - s) * 2 ^ s < (18446744073709551616 : Int) := by
        rw [← hPQ]; exact Int.mul_lt_mul_of_pos_right (Int.emod_lt_of_pos _ hQ) hP
      omega
    simp only [ev, eh, eo]
    generalize hu : hi * 2 ^ s + lo / 2 ^ (64 - s) = u
    generalize ht : lo * 2 ^ s % (18446744073709551616 : Int) = t at elo
    have ht0 : 0 ≤ t ∧ t < (18446744073709551616 : Int) := by rw [← ht]; omega
    rw [and_mask (x := y * 2 ^ s) (by omega), and_mask (x := t) ht0]
    have eNP : (hi * (18446744073709551616 : Int) + lo) * 2 ^ s = u * (18446744073709551616 : Int) + t := by
      rw [Int.add_mul, elo, ← hu, Int.add_mul]
      have : hi * (18446744073709551616 : Int) * 2 ^ s = hi * 2 ^ s * (18446744073709551616 : Int) := by ac_rfl
      omega
    generalize hv : y * 2 ^ s = v at *
    have g1 := Gs.first (v := v) (v1 := v / 4294967296) (v0 := v % 4294967296) (u := u) (w := t / 4294967296) (by omega) (by omega) (by omega) (by omega) (by omega)
    have q1r := g1.hq0
    have d1 : 0 ≤ u / (v / 4294967296) * (v / 4294967296) := by have := g1.hq; have := g1.hr; have := Int.mul_nonneg q1r.1 (show 0 ≤ v / 4294967296 by omega); exact this
    have e1 : u.tdiv (v / 4294967296) = u / (v / 4294967296) := Int.tdiv_eq_ediv_of_nonneg (by omega)
    have hr1 := g1.hr
    rw [e1]
    simp only [wu]
    rw [Int.emod_eq_of_lt (a := u / (v / 4294967296)) q1r.1 (by omega), Int.emod_eq_of_lt (a := u / (v / 4294967296) * (v / 4294967296)) d1 (by omega), Int.emod_eq_of_lt (a := u - _) hr1.1 (by omega)]
    rw [if_neg (by omega), if_neg (by omega), if_neg (by omega), if_neg (by omega), if_neg (by omega)]
    rw [div_l0 2 _ _ g1 (by omega) k k _ _ (by omega) (by omega), bitsDiv64.j21_eq]
    simp only [iteA_eq, wu]
    rw [if_neg (by omega)]
    have hvp : 0 < v := by omega
    have m1 := Int.mul_ediv_add_emod (u * 4294967296 + t / 4294967296) v
    have m2 := Int.emod_nonneg (u * 4294967296 + t / 4294967296) (show v ≠ 0 by omega)
    have m3 := Int.emod_lt_of_pos (u * 4294967296 + t / 4294967296) hvp
    have hq1 : (u * 4294967296 + t / 4294967296) / v < 4294967296 := (Int.ediv_lt_iff_lt_mul hvp).2 (by omega)
    have hq10 : 0 ≤ (u * 4294967296 + t / 4294967296) / v := Int.ediv_nonneg (by omega) (by omega)
    generalize (u * 4294967296 + t / 4294967296) / v = q1 at *
    generalize (u * 4294967296 + t / 4294967296) % v = u21 at *
    have c1 : q1 * v = v * q1 := Int.mul_comm ..
    have eu : ((u * 4294967296 % (18446744073709551616 : Int) + t / 4294967296) % (18446744073709551616 : Int) - q1 * v % (18446744073709551616 : Int)) % (18446744073709551616 : Int) = u21 := by rw [c1]; omega
    rw [eu]
    have g2 := Gs.first (v := v) (v1 := v / 4294967296) (v0 := v % 4294967296) (u := u21) (w := t % 4294967296) (by omega) (by omega) (by omega) (by omega) (by omega)
    have q2r := g2.hq0
    have d2 : 0 ≤ u21 / (v / 4294967296) * (v / 4294967296) := Int.mul_nonneg q2r.1 (by omega)
    have e2 : u21.tdiv (v / 4294967296) = u21 / (v / 4294967296) := Int.tdiv_eq_ediv_of_nonneg (by omega)
    have hr2 := g2.hr
    rw [e2, Int.emod_eq_of_lt (a := u21 / (v / 4294967296)) q2r.1 (by omega), Int.emod_eq_of_lt (a := u21 / (v / 4294967296) * (v / 4294967296)) d2 (by omega), Int.emod_eq_of_lt (a := u21 - _) hr2.1 (by omega)]
    rw [div_l1 2 _ _ g2 (by omega) k k _ _ (by omega) (by omega), bitsDiv64.j28_eq]
    simp only [iteA_eq, wu]
    rw [if_neg (by omega)]
    have m4 := Int.mul_ediv_add_emod (u21 * 4294967296 + t % 4294967296) v
    have m5 := Int.emod_nonneg (u21 * 4294967296 + t % 4294967296) (show v ≠ 0 by omega)
    have m6 := Int.emod_lt_of_pos (u21 * 4294967296 + t % 4294967296) hvp
    have hq2 : (u21 * 4294967296 + t % 4294967296) / v < 4294967296 := (Int.ediv_lt_iff_lt_mul hvp).2 (by omega)
    have hq20 : 0 ≤ (u21 * 4294967296 + t % 4294967296) / v := Int.ediv_nonneg (by omega) (by omega)
    generalize (u21 * 4294967296 + t % 4294967296) / v = q0 at *
    generalize (u21 * 4294967296 + t % 4294967296) % v = R at *
    have c2 : q0 * v = v * q0 := Int.mul_comm ..
    have eR : ((u21 * 4294967296 % (18446744073709551616 : Int) + t % 4294967296) % (18446744073709551616 : Int) - q0 * v % (18446744073709551616 : Int)) % (18446744073709551616 : Int) = R := by rw [c2]; omega
    have eq : (q1 * 4294967296 % (18446744073709551616 : Int) + q0) % (18446744073709551616 : Int) = q1 * 4294967296 + q0 := by omega
    rw [eR, eq, shr_eq s (by omega)]
    -- the sum
    have fin : (hi * (18446744073709551616 : Int) + lo) * 2 ^ s = ((q1 * 4294967296 + q0) * y) * 2 ^ s + R := by
      have b1 : ((q1 * 4294967296 + q0) * y) * 2 ^ s = v * q1 * 4294967296 + v * q0 := by
        rw [Int.mul_assoc, hv, Int.add_mul]
        have : q1 * 4294967296 * v = v * q1 * 4294967296 := by ac_rfl
        omega
      rw [eNP, b1]; omega
    have fR : R = (hi * (18446744073709551616 : Int) + lo - (q1 * 4294967296 + q0) * y) * 2 ^ s := by rw [Int.sub_mul]; omega
    have fq : R / 2 ^ s = hi * (18446744073709551616 : Int) + lo - (q1 * 4294967296 + q0) * y := by rw [fR]; exact Int.mul_ediv_cancel _ (by omega)
    have fr0 : 0 ≤ hi * (18446744073709551616 : Int) + lo - (q1 * 4294967296 + q0) * y := by rw [← fq]; exact Int.ediv_nonneg m5 (Int.le_of_lt hP)
    have fr1 : hi * (18446744073709551616 : Int) + lo - (q1 * 4294967296 + q0) * y < y := by
      rw [← fq]; exact (Int.ediv_lt_iff_lt_mul hP).2 (by omega)
    have Q1 : (hi * (18446744073709551616 : Int) + lo) / y = q1 * 4294967296 + q0 := ediv_of (by omega) (by omega) (by rw [Int.add_mul (q1 * 4294967296 + q0) 1 y]; omega)
    have Q2 : (hi * (18446744073709551616 : Int) + lo) % y = hi * (18446744073709551616 : Int) + lo - (q1 * 4294967296 + q0) * y := by
      have := Int.mul_ediv_add_emod (hi * (18446744073709551616 : Int) + lo) y
      rw [Q1, Int.mul_comm y] at this; omega
    rw [fq, Q1, Q2]
    rfl
end TryzE
end
section
set_option linter.unusedSimpArgs false
set_option linter.unusedVariables false
namespace TryzE
open Go.Eng Go.Proofs Num
/-! ## Division by one limb -/
theorem val_drop {B : Int} (l : List Int) (j : Nat) (hj : j < l.length) : val B (l.drop j) = l.getD j 0 + B * val B (l.drop (j + 1)) := by
  rw [List.drop_eq_getElem_cons hj]
  simp [val, List.getD_eq_getElem?_getD, List.getElem?_eq_getElem hj]
theorem by_loop {a : List Int} (ha : Dg (18446744073709551616 : Int) a) {d : Int} (hd : 0 < d ∧ d < (18446744073709551616 : Int)) (hN : a.length < 1000000000) : ∀ (j : Nat) (rem : Int) (out : List Int), j ≤ a.length → out.length = a.length → Dg (18446744073709551616 : Int) out → (0 ≤ rem ∧ rem < d) →
    val (18446744073709551616 : Int) (a.drop j) = d * val (18446744073709551616 : Int) (out.drop j) + rem → ∀ k n, 6 ≤ k → j + 1 ≤ n →
    ∃ (out' : List Int) (rem' : Int), out'.length = a.length ∧ Dg (18446744073709551616 : Int) out' ∧ (0 ≤ rem' ∧ rem' < d) ∧ val (18446744073709551616 : Int) a = d * val (18446744073709551616 : Int) out' + rem' ∧
      quotBy.l0 k n a d rem ((j : Int) - 1) out = some ⟨[(.fresh (.int .u64) out'), (.v (.c (.int .u64 rem')))], []⟩ := by
  intro j
  induction j with
  | zero =>
    intro rem out hj ho hdo hr hv k n hk hn
    obtain ⟨n, rfl, hn'⟩ := succOf hn
    refine ⟨out, rem, ho, hdo, hr, by simpa using hv, ?_⟩
    rw [quotBy.l0_succ]
    simp only [iteA_eq]
    rw [if_neg (by simp)]
  | succ j ih =>
    intro rem out hj ho hdo hr hv k n hk hn
    obtain ⟨n, rfl, hn'⟩ := succOf hn
    have xa := ha.getD (by decide) j
    have hlt : j < out.length := by omega
    have e : ((j + 1 : Nat) : Int) - 1 = (j : Int) := by omega
    have hs := Int.mul_ediv_add_emod (rem * (18446744073709551616 : Int) + a.getD j 0) d
    have q0 : 0 ≤ (rem * (18446744073709551616 : Int) + a.getD j 0) / d := Int.ediv_nonneg (by omega) (by omega)
    have q1 : (rem * (18446744073709551616 : Int) + a.getD j 0) / d < (18446744073709551616 : Int) := (Int.ediv_lt_iff_lt_mul hd.1).2 (by omega)
    have r0 := Int.emod_nonneg (rem * (18446744073709551616 : Int) + a.getD j 0) (show d ≠ 0 by omega)
    have r1 := Int.emod_lt_of_pos (rem * (18446744073709551616 : Int) + a.getD j 0) hd.1
    obtain ⟨out', rem', s1, s2, s3, s4, s5⟩ := ih ((rem * (18446744073709551616 : Int) + a.getD j 0) % d) (out.set j ((rem * (18446744073709551616 : Int) + a.getD j 0) / d)) (by omega) (by simpa using ho) (hdo.set j q0 q1) ⟨r0, r1⟩ (by
      rw [val_drop a j (by omega), val_drop _ j (by simpa using hlt), getD_set_self hlt, List.drop_set_of_lt (by omega), hv, Int.mul_add, Int.mul_add]
      have : d * ((18446744073709551616 : Int) * val (18446744073709551616 : Int) (out.drop (j + 1))) = (18446744073709551616 : Int) * (d * val (18446744073709551616 : Int) (out.drop (j + 1))) := by ac_rfl
      omega) k n hk hn'
    refine ⟨out', rem', s1, s2, s3, s4, ?_⟩
    rw [← s5, quotBy.l0_succ]
    simp only [iteA_eq, e, Int.toNat_natCast]
    rw [if_pos (by simp), if_pos (by omega), div64_spec (by omega) xa hd.2 k hk, if_pos (by omega), wi (by omega) (by omega)]
theorem by_spec {a : List Int} (ha : Dg (18446744073709551616 : Int) a) {d : Int} (hd : 0 < d ∧ d < (18446744073709551616 : Int)) (hN : a.length < 100000000) (k : Nat) (hk : a.length + 10 ≤ k) :
    ∃ (out' : List Int) (rem' : Int), out'.length = a.length ∧ Dg (18446744073709551616 : Int) out' ∧ (0 ≤ rem' ∧ rem' < d) ∧ val (18446744073709551616 : Int) a = d * val (18446744073709551616 : Int) out' + rem' ∧
      ∀ F : List Int × Int → Option Res, callT (C k 160 [(.v (.c (.sl (.int .u64) a))), (.v (.c (.int .u64 d)))]) sh160 F = F (out', rem') := by
  obtain ⟨k, rfl, hk'⟩ := succOf (n := a.length + 9) hk
  obtain ⟨out', rem', s1, s2, s3, s4, s5⟩ := by_loop ha hd (by omega) a.length 0 (List.replicate a.length 0) (Nat.le_refl _) (by simp) (Dg.replicate (by decide) _) (by omega) (by
    rw [List.drop_of_length_le (Nat.le_refl _), List.drop_of_length_le (by simp)]; simp [val]) k k (by omega) (by omega)
  refine ⟨out', rem', s1, s2, s3, s4, fun F => ?_⟩
  rw [quotBy.eq]
  simp only [iteA_eq, Int.toNat_natCast]
  rw [if_pos (by omega), wi (by omega) (by omega), s5]
  rfl
theorem div1_spec (a d : Nat) (hd : 0 < d ∧ d < 18446744073709551616) (ha : (L a).length < 100000000) : ∃ K, ∀ k, K ≤ k → ∀ F : List Int × List Int × Int → Option Res, callT (C k 121 [(.v (.agg [(.sl (.int .u64) (L a))])), (.v (.agg [(.sl (.int .u64) (L d))]))]) sh121 F = F (L (a / d), L (a % d), 0) := by
  refine ⟨(L a).length + 20, fun k hk F => ?_⟩
  obtain ⟨k, rfl, hk'⟩ := succOf (n := (L a).length + 19) hk
  have hL : L d = [(d : Int)] := L_one hd.1 hd.2
  rw [quotDiv.eq, zero_spec _ k (by omega)]
  simp only [iteA_eq]
  rw [if_neg (by rw [decide_eq_true_eq, L_nil]; omega), cmp_spec a d (by omega) (by rw [hL]; simp) k (by omega)]
  by_cases h : a < d
  · rw [if_pos (by rw [sgn, if_pos h]; decide), Nat.div_eq_of_lt h, Nat.mod_eq_of_lt h]
    rfl
  · obtain ⟨out', rem', s1, s2, s3, s4, s5⟩ := by_spec (L_dg a) (d := (d : Int)) (by omega) ha k (by omega)
    rw [L_val] at s4
    have hq : val (18446744073709551616 : Int) out' = ((a / d : Nat) : Int) := by
      rw [Int.natCast_ediv]
      exact (ediv_of (by omega) (by rw [Int.mul_comm]; omega) (by rw [Int.add_mul, Int.mul_comm]; omega)).symm
    have hm : rem' = ((a % d : Nat) : Int) := by
      have := Nat.div_add_mod a d
      rw [hq] at s4
      have h2 : ((d * (a / d) + a % d : Nat) : Int) = (a : Int) := by rw [this]
      rw [Int.natCast_add, Int.natCast_mul] at h2
      omega
    rw [if_neg (by rw [sgn, if_neg h]; split <;> decide), limbs_spec _ (by omega) k (by omega), limbs_spec _ (by rw [hL]; simp) k (by omega), hL, if_pos (by simp), if_pos (by simp)]
    simp only [List.getD_cons_zero]
    have e1 := of_spec out' (a / d) s2 hq (by omega) k (by omega)
    have e2 := of_spec [rem'] (a % d) (by intro x hx; simp at hx; omega) (by simp [val, hm]) (by simp) k (by simp; omega)
    rw [s5, e1, e2]
    rfl
/-! ## digits.small -/
def smallD : Nat → Nat → Nat → List Int
  | 0, _, _ => []
  | f + 1, x, w => if 0 < x ∨ 0 < w then ((48 + x % 10 : Nat) : Int) :: smallD f (x / 10) (w - 1) else []
theorem size5 : sizeP Go.Proofs.Tryz.prog 5 = some 1 := by kernel_rfl
theorem small_loop (W : Nat) : ∀ (f x cnt : Nat) (buf ds : List Int), cnt + f = 20 → buf.length = 20 → buf.drop f = ds.reverse → x < 10 ^ f → x < 18446744073709551616 → W ≤ 20 → ∀ k n, f + 1 ≤ n →
    digitsSmall.l0 k n (x : Int) (W : Int) (f : Int) buf = some ⟨[(.v (.c (.str (bytesS (ds ++ smallD f x (W - cnt)).reverse))))], []⟩ := by
  intro f
  induction f with
  | zero =>
    intro x cnt buf ds hc hb hd hx hx2 hW k n hn
    obtain ⟨n, rfl, hn'⟩ := succOf hn
    have hx0 : x = 0 := by simpa using hx
    subst hx0
    rw [digitsSmall.l0_succ]
    simp only [iteA_eq]
    rw [if_pos (by simp), if_neg (by rw [wi (by omega) (by omega)]; simp; omega), if_pos ⟨size5, hb⟩, if_pos (by decide)]
    simp only [smallD, List.append_nil, ← hd]
    simp [hb]
    rw [List.take_of_length_le (by omega)]
  | succ f ih =>
    intro x cnt buf ds hc hb hd hx hx2 hW k n hn
    obtain ⟨n, rfl, hn'⟩ := succOf hn
    have e : Go.IntKind.i64.wrap (((f + 1 : Nat) : Int) - 1) = (f : Int) := by rw [wi (by omega) (by omega)]; omega
    have more : 0 < x ∨ 0 < W - cnt → digitsSmall.j5 k n (x : Int) (W : Int) ((f + 1 : Nat) : Int) buf = some ⟨[(.v (.c (.str (bytesS (ds ++ smallD (f + 1) x (W - cnt)).reverse))))], []⟩ := by
      intro h
      rw [digitsSmall.j5_eq]
      simp only [iteA_eq, e, Int.toNat_natCast]
      have e1 : Go.IntKind.u64.wrap ((x : Int).tdiv 10) = ((x / 10 : Nat) : Int) := by rw [Int.tdiv_eq_ediv_of_nonneg (by omega), wu]; omega
      have e2 : Go.IntKind.u8.wrap (Go.IntKind.u64.wrap (48 + (x : Int).tmod 10)) = ((48 + x % 10 : Nat) : Int) := by rw [Int.tmod_eq_emod_of_nonneg (by omega), wu, Go.IntKind.wrap_u8]; omega
      rw [if_pos ⟨size5, hb⟩, if_pos (by omega), e1, e2]
      rw [ih (x / 10) (cnt + 1) _ (ds ++ [((48 + x % 10 : Nat) : Int)]) (by omega) (by simpa using hb) (by
        rw [List.drop_eq_getElem_cons (by simp; omega)]
        simp only [List.getElem_set_self, List.reverse_append, List.reverse_cons, List.reverse_nil, List.nil_append, List.singleton_append]
        rw [List.drop_set_of_lt (by omega), hd]) (by rw [Nat.pow_succ] at hx; omega) (by omega) hW k n hn']
      rw [smallD, if_pos h, List.append_assoc, Nat.sub_sub]
      rfl
    rw [digitsSmall.l0_succ]
    simp only [iteA_eq]
    by_cases h1 : 0 < x
    · rw [if_neg (by simp; omega)]
      exact more (.inl h1)
    · rw [if_pos (by simpa using h1), wi (by omega) (by omega)]
      by_cases h2 : cnt < W
      · rw [if_pos (by simp; omega)]
        exact more (.inr (by omega))
      · rw [if_neg (by simp; omega), if_pos ⟨size5, hb⟩, if_pos (by omega)]
        rw [smallD, if_neg (by omega), List.append_nil, ← hd]
        simp only [Int.toNat_natCast, Nat.zero_add]
        rw [List.take_of_length_le (by simp [hb])]
theorem small_spec (x W : Nat) (hx : x < 18446744073709551616) (hW : W ≤ 20) : ∀ k, 22 ≤ k → ∀ F : ByteArray → Option Res, callT (C k 129 [(.v (.c (.int .u64 (x : Int)))), (.v (.c (.int .i64 (W : Int))))]) sh129 F = F (bytesS (smallD 20 x W).reverse) := by
  intro k hk F
  obtain ⟨k, rfl, hk'⟩ := succOf (n := 21) hk
  have h20 : x < 10 ^ 20 := by
    have : (10 : Nat) ^ 20 = 100000000000000000000 := by decide
    omega
  rw [digitsSmall.eq, show digitsSmall.l0 k k (x : Int) (W : Int) 20 (List.replicate 20 0) = _ from small_loop W 20 x 0 (List.replicate 20 0) [] (by rfl) (by rfl) (by rfl) h20 hx hW k k hk']
  rfl
end TryzE
end
section
set_option linter.unusedSimpArgs false
set_option linter.unusedVariables false
namespace TryzE
open Go.Eng Go.Proofs Num
/-! ## A number's text -/
def padD (w x : Nat) : List Int := dig 10 x ++ List.replicate (w - (dig 10 x).length) 0
def asc (l : List Int) : List Int := l.map (fun d => 48 + d)
theorem smallD_eq : ∀ (f x w : Nat), x < 10 ^ f → w ≤ f → smallD f x w = asc (padD w x)
  | 0, x, w, hx, hw => by
    have : x = 0 := by simpa using hx
    subst this
    have : w = 0 := by omega
    subst this
    rfl
  | f + 1, x, w, hx, hw => by
    rw [smallD]
    by_cases h0 : x = 0
    · subst h0
      by_cases hw0 : w = 0
      · subst hw0; rfl
      · rw [if_pos (.inr (by omega)), Nat.zero_div, smallD_eq f 0 (w - 1) (Nat.pow_pos (by decide)) (by omega)]
        unfold padD asc
        rw [dig_zero]
        simp only [List.length_nil, Nat.sub_zero, List.nil_append]
        obtain ⟨v, rfl⟩ : ∃ v, w = v + 1 := ⟨w - 1, by omega⟩
        rw [Nat.add_sub_cancel, List.replicate_succ, List.map_cons]
        rfl
    · rw [if_pos (.inl (by omega)), smallD_eq f (x / 10) (w - 1) (by rw [Nat.pow_succ] at hx; omega) (by omega)]
      unfold padD asc
      rw [dig_pos (B := 10) (by decide) (show 0 < x by omega)]
      simp only [List.length_cons, List.cons_append, List.map_cons]
      rw [show w - 1 - (dig 10 (x / 10)).length = w - ((dig 10 (x / 10)).length + 1) by omega]
      congr 1
theorem dig10_split {n : Nat} (w : Nat) (h : 0 < n / 10 ^ w) : dig 10 n = padD w (n % 10 ^ w) ++ dig 10 (n / 10 ^ w) := by
  have hp : 0 < 10 ^ w := Nat.pow_pos (by decide)
  have hl : (dig 10 (n % 10 ^ w)).length ≤ w := dig_len_lt (by decide) (Nat.mod_lt _ hp)
  have lp : (padD w (n % 10 ^ w)).length = w := by unfold padD; simp; omega
  refine (dig_unique (B := 10) (by decide) ?_ ?_ ?_).symm
  · exact ((dig_dg (by decide) _).append (Dg.replicate (by decide) _)).append (dig_dg (by decide) _)
  · have := dig_tr (B := 10) (by decide) (n / 10 ^ w)
    unfold Tr at this ⊢
    rw [List.getLast?_append]
    cases hx : (dig 10 (n / 10 ^ w)).getLast? with
    | none => 
      rw [List.getLast?_eq_none_iff, dig_eq_nil (by decide)] at hx; omega
    | some y => rw [hx] at this; simpa using this
  · rw [val_append, lp, padD, val_append, val_replicate, Int.mul_zero, Int.add_zero]
    have e1 := dig_val (B := 10) (by decide) (n % 10 ^ w)
    have e2 := dig_val (B := 10) (by decide) (n / 10 ^ w)
    have e3 : ((10 : Nat) : Int) = 10 := rfl
    rw [e3] at e1 e2 ⊢
    rw [e1, e2]
    have h1 := Nat.mod_add_div n (10 ^ w)
    have h2 : ((n % 10 ^ w + 10 ^ w * (n / 10 ^ w) : Nat) : Int) = n := by rw [h1]
    rw [Int.natCast_add, Int.natCast_mul, Int.natCast_pow] at h2
    exact h2
theorem bytesS_append (l m : List Int) : bytesS (l ++ m) = bytesS l ++ bytesS m := by
  apply ByteArray.ext
  simp [bytesS, ByteArray.data_append]
theorem bytesS_size (l : List Int) : (bytesS l).size = l.length := by simp [bytesS, ByteArray.size]
/-- the digits, the highest first; nothing for nought -/
def txt (n : Nat) : ByteArray := bytesS (asc (dig 10 n)).reverse
theorem txt_split {n : Nat} (w : Nat) (h : 0 < n / 10 ^ w) : txt n = txt (n / 10 ^ w) ++ bytesS (asc (padD w (n % 10 ^ w))).reverse := by
  unfold txt
  rw [dig10_split w h, ← bytesS_append]
  unfold asc
  rw [List.map_append, List.reverse_append]
theorem txt_one {n : Nat} (h : 0 < n) : txt n = bytesS (asc (padD 1 n)).reverse := by
  unfold txt padD
  have : 1 ≤ (dig 10 n).length := by
    rcases Nat.eq_zero_or_pos (dig 10 n).length with h1 | h1
    · rw [List.length_eq_zero_iff, dig_eq_nil (by decide)] at h1; omega
    · exact h1
  rw [Nat.sub_eq_zero_of_le this]
  simp
/-! ## digits.Print -/
def catR : List ByteArray → ByteArray
  | [] => ⟨#[]⟩
  | s :: r => catR r ++ s
theorem ba_nil_append (s : ByteArray) : (⟨#[]⟩ : ByteArray) ++ s = s := by apply ByteArray.ext; simp [ByteArray.data_append]
theorem ba_append_nil (s : ByteArray) : s ++ (⟨#[]⟩ : ByteArray) = s := by apply ByteArray.ext; simp [ByteArray.data_append]
theorem catR_snoc : ∀ (l : List ByteArray) (s : ByteArray), catR (l ++ [s]) = s ++ catR l
  | [], s => by simp only [List.nil_append, catR]; rw [ba_nil_append, ba_append_nil]
  | x :: l, s => by simp only [List.cons_append, catR]; rw [catR_snoc l s, ByteArray.append_assoc]
theorem catR_size : ∀ (l : List ByteArray), (∀ s ∈ l, s.size ≤ 20) → (catR l).size ≤ 20 * l.length
  | [], _ => by simp [catR, ByteArray.size]
  | x :: l, h => by
    have h1 := catR_size l (fun s hs => h s (by simp [hs]))
    have h2 := h x (by simp)
    simp only [catR, ByteArray.size_append, List.length_cons]
    omega
theorem print_l2 (parts : List ByteArray) (h20 : ∀ s ∈ parts, s.size ≤ 20) (hl : parts.length < 100000000) : ∀ (j : Nat) (acc : ByteArray), j ≤ parts.length → acc.size + 20 * j ≤ 20 * parts.length → ∀ k n, j + 1 ≤ n →
    digitsPrint.l2 k n ((j : Int) - 1) acc parts = some ⟨[(.v (.c (.str (acc ++ catR (parts.take j)))))], []⟩ := by
  intro j
  induction j with
  | zero =>
    intro acc hj hs k n hn
    obtain ⟨n, rfl, hn'⟩ := succOf hn
    rw [digitsPrint.l2_succ]
    simp only [iteA_eq]
    rw [if_neg (by simp), List.take_zero, catR, ba_append_nil]
  | succ j ih =>
    intro acc hj hs k n hn
    obtain ⟨n, rfl, hn'⟩ := succOf hn
    have e : ((j + 1 : Nat) : Int) - 1 = (j : Int) := by omega
    have hg : parts.getD j ⟨#[]⟩ = parts[j] := by simp [List.getD_eq_getElem?_getD, List.getElem?_eq_getElem (show j < parts.length by omega)]
    have hsz : (parts[j]).size ≤ 20 := h20 _ (List.getElem_mem _)
    rw [digitsPrint.l2_succ]
    simp only [iteA_eq, e, Int.toNat_natCast, hg]
    rw [if_pos (by simp), if_pos (by omega), if_pos (by rw [decide_eq_true_eq]; omega), wi (by omega) (by omega), ih _ (by omega) (by rw [ByteArray.size_append]; omega) k n hn', List.take_succ_eq_append_getElem (by omega), catR_snoc, ByteArray.append_assoc]
theorem print_l1 (k n n0 : Nat) (r : Nat) (hr : r < 18446744073709551616) (m q : List Int) (parts : List ByteArray) (hn : 2 ≤ n) : digitsPrint.l1 k n n0 0 ((L r).length : Int) 0 m q parts (L r) = callT (C k 77 [(.v (.agg [(.sl (.int .u64) q)]))]) sh77 fun (y6 : Bool) => (iteA (y6 = Bool.true) (digitsPrint.j15 k n0 (r : Int) 1 m q parts) (digitsPrint.j15 k n0 (r : Int) 18 m q parts)) := by
  obtain ⟨n, rfl, hn'⟩ := succOf hn
  rcases Nat.eq_zero_or_pos r with h | h
  · subst h
    rw [digitsPrint.l1_succ, L_zero, iteA_eq, if_neg (by simp)]
    rfl
  · rw [L_one h hr, digitsPrint.l1_succ, iteA_eq, if_pos (by simp), iteA_eq, if_pos (by simp)]
    obtain ⟨n, rfl, hn'⟩ := succOf hn'
    rw [digitsPrint.l1_succ, iteA_eq, if_neg (by simp [Go.IntKind.wrap_i64])]
    rfl
end TryzE
end
section
set_option linter.unusedSimpArgs false
set_option linter.unusedVariables false
namespace TryzE
open Go.Eng Go.Proofs Num
theorem catR_ap (t p : ByteArray) (l : List ByteArray) : t ++ catR (l ++ [p]) = (t ++ p) ++ catR l := by rw [catR_snoc, ByteArray.append_assoc]
theorem print_loop : ∀ (m : Nat) (parts : List ByteArray), (L m).length < 1000000 → (∀ s ∈ parts, s.size ≤ 20) → parts.length + (dig 1000000000000000000 m).length < 10000000 →
    ∃ K, ∀ k, K ≤ k → ∀ n, K ≤ n → digitsPrint.l0 k n (L m) parts = some ⟨[(.v (.c (.str (txt m ++ catR parts))))], []⟩ := by
  intro m
  induction m using Nat.strongRecOn with
  | ind m ih =>
    intro parts hm h20 hs
    by_cases h0 : m = 0
    · subst h0
      refine ⟨parts.length + 5, fun k hk n hn => ?_⟩
      obtain ⟨n, rfl, hn'⟩ := succOf (n := parts.length + 4) hn
      have h2 := print_l2 parts h20 (by omega) parts.length ⟨#[]⟩ (Nat.le_refl _) (by show 0 + _ ≤ _; omega) k k (by omega)
      rw [digitsPrint.l0_succ, zero_spec _ k (by omega)]
      simp only [iteA_eq]
      rw [if_neg (by simp [L_zero]), wi (by omega) (by omega), h2]
      rw [List.take_of_length_le (Nat.le_refl _)]
      rfl
    · have hlen : (L (m / 1000000000000000000)).length ≤ (L m).length := L_mono (Nat.div_le_self _ _)
      have hr : m % 1000000000000000000 < 18446744073709551616 := by have := Nat.mod_lt m (show 0 < 1000000000000000000 by decide); omega
      have hr18 : m % 1000000000000000000 < 10 ^ 18 := Nat.mod_lt m (by decide)
      obtain ⟨K1, hK1⟩ := div1_spec m 1000000000000000000 (by decide) (by omega)
      have e18 : (10 : Nat) ^ 18 = 1000000000000000000 := by decide
      have psz : ∀ w, 1 ≤ w → w ≤ 18 → (bytesS (asc (padD w (m % 1000000000000000000))).reverse).size ≤ 20 := by
        intro w hw1 hw2
        have : (dig 10 (m % 1000000000000000000)).length ≤ 18 := dig_len_lt (by decide) hr18
        rw [bytesS_size]; simp [asc, padD]; omega
      have hdl : (dig 1000000000000000000 m).length = (dig 1000000000000000000 (m / 1000000000000000000)).length + 1 := by
        rw [dig_pos (by decide) (show 0 < m by omega)]; rfl
      have h10 : m % 1000000000000000000 < 10 ^ 20 := by have : (10 : Nat) ^ 20 = 100000000000000000000 := by decide
                                                         omega
      have step : ∀ w, 1 ≤ w → w ≤ 18 → (txt m = txt (m / 1000000000000000000) ++ bytesS (asc (padD w (m % 1000000000000000000))).reverse) →
          ∃ K, ∀ k, K ≤ k → ∀ n, K ≤ n → digitsPrint.j15 k n ((m % 1000000000000000000 : Nat) : Int) (w : Int) (L m) (L (m / 1000000000000000000)) parts = some ⟨[(.v (.c (.str (txt m ++ catR parts))))], []⟩ := by
        intro w hw1 hw2 ht
        obtain ⟨K, hK⟩ := ih (m / 1000000000000000000) (by omega) (parts ++ [bytesS (asc (padD w (m % 1000000000000000000))).reverse]) (by omega) (by
          intro s hs
          rw [List.mem_append, List.mem_singleton] at hs
          rcases hs with h | h
          · exact h20 s h
          · subst h; exact psz w hw1 hw2) (by rw [List.length_append, List.length_singleton]; omega)
        refine ⟨K + 22, fun k hk n hn => ?_⟩
        rw [digitsPrint.j15_eq, small_spec _ w hr (by omega) k (by omega), smallD_eq 20 _ w h10 (by omega)]
        simp only [iteA_eq]
        rw [if_pos (by rw [List.length_singleton]; omega), hK k (by omega) n (by omega), catR_ap, ← ht]
      by_cases hq : m / 1000000000000000000 = 0
      · have hmm : m % 1000000000000000000 = m := by omega
        obtain ⟨K2, hK2⟩ := step 1 (by omega) (by omega) (by
          rw [hq, hmm, show txt 0 = ⟨#[]⟩ from rfl, ba_nil_append]; exact txt_one (by omega))
        refine ⟨K1 + K2 + 30, fun k hk n hn => ?_⟩
        obtain ⟨n, rfl, hn'⟩ := succOf (n := K1 + K2 + 29) hn
        rw [digitsPrint.l0_succ, zero_spec _ k (by omega)]
        simp only [iteA_eq]
        rw [if_pos (by simp [L_nil, h0]), of_spec [1000000000000000000] 1000000000000000000 (by intro d hd; simp at hd; omega) (by rfl) (by decide) k (by simp; omega), hK1 k (by omega), limbs_spec _ (by have := @L_len (m % 1000000000000000000) 1 (by omega); show ((L (m % 1000000000000000000)).length : Int) < _; omega) k (by omega), print_l1 k k n _ hr _ _ _ (by omega), zero_spec _ k (by omega)]
        simp only [iteA_eq]
        rw [if_pos (by simp [L_nil, hq])]
        exact hK2 k (by omega) n (by omega)
      · obtain ⟨K2, hK2⟩ := step 18 (by omega) (by omega) (by
          have := txt_split (n := m) 18 (by rw [e18]; omega)
          rwa [e18] at this)
        refine ⟨K1 + K2 + 30, fun k hk n hn => ?_⟩
        obtain ⟨n, rfl, hn'⟩ := succOf (n := K1 + K2 + 29) hn
        rw [digitsPrint.l0_succ, zero_spec _ k (by omega)]
        simp only [iteA_eq]
        rw [if_pos (by simp [L_nil, h0]), of_spec [1000000000000000000] 1000000000000000000 (by intro d hd; simp at hd; omega) (by rfl) (by decide) k (by simp; omega), hK1 k (by omega), limbs_spec _ (by have := @L_len (m % 1000000000000000000) 1 (by omega); show ((L (m % 1000000000000000000)).length : Int) < _; omega) k (by omega), print_l1 k k n _ hr _ _ _ (by omega), zero_spec _ k (by omega)]
        simp only [iteA_eq]
        rw [if_neg (by simp [L_nil, hq])]
        exact hK2 k (by omega) n (by omega)
/-- the text of a number -/
def dec (n : Nat) : ByteArray := if n = 0 then ⟨#[48]⟩ else txt n
theorem dig18_len (n : Nat) : (dig 1000000000000000000 n).length ≤ 2 * (L n).length := by
  refine dig_len_lt (by decide) (Nat.lt_of_lt_of_le (L_lt n) ?_)
  rw [Nat.pow_mul]
  exact Nat.pow_le_pow_left (by decide) _
theorem print_spec (n : Nat) (hn : (L n).length < 1000000) : ∃ K, ∀ k, K ≤ k → ∀ F : ByteArray → Option Res, callT (C k 70 [(.v (.agg [(.sl (.int .u64) (L n))]))]) sh70 F = F (dec n) := by
  obtain ⟨K, hK⟩ := print_loop n [] hn (by intro s hs; cases hs) (by have := dig18_len n; simp; omega)
  refine ⟨K + 5, fun k hk F => ?_⟩
  obtain ⟨k, rfl, hk'⟩ := succOf (n := K + 4) hk
  rw [digitsPrint.eq, zero_spec _ k (by omega)]
  simp only [iteA_eq]
  unfold dec
  by_cases h0 : n = 0
  · rw [if_pos (by simp [L_nil, h0]), if_pos h0]; rfl
  · rw [if_neg (by simp [L_nil, h0]), if_neg h0, hK k (by omega) k (by omega)]
    simp only [catR, ba_append_nil]
    rfl
end TryzE
end
