/- What the document's numbers come to; long division is right. -/
import Derived.Test.YtjkfpbfimcpoeaaGreatDoorPlnA
section
set_option linter.unusedSimpArgs false
set_option linter.unusedVariables false
namespace TryzE
open Go.Eng Go.Proofs Num
/-! ## The references: base 10000 -/
def R (n : Nat) : List Int := dig 10000 n
theorem R_dg (n : Nat) : Dg 10000 (R n) := dig_dg (B := 10000) (by decide) n
theorem R_val (n : Nat) : val 10000 (R n) = n := dig_val (B := 10000) (by decide) n
theorem R_lt (n : Nat) : n < 10000 ^ (R n).length := lt_of_dig_len (B := 10000) (by decide) n
theorem R_len {n k : Nat} (h : n < 10000 ^ k) : (R n).length ≤ k := dig_len_lt (B := 10000) (by decide) h
theorem R_mono {n m : Nat} (h : n ≤ m) : (R n).length ≤ (R m).length := R_len (Nat.lt_of_le_of_lt h (R_lt m))
theorem R_trim {l : List Int} (h : Dg 10000 l) {n k : Nat} (hv : val 10000 l = n) (hk : k ≤ l.length) (hz : ∀ i, k ≤ i → i < l.length → l.getD i 0 = 0) (ht : k = 0 ∨ l.getD (k - 1) 0 ≠ 0) : l.take k = R n := trim_dig (B := 10000) (by decide) h hv hk hz ht
theorem R_uni {l : List Int} (h : Dg 10000 l) (t : Tr l) {n : Nat} (hv : val 10000 l = n) : l = R n := dig_unique (B := 10000) (by decide) h t hv
theorem R_zero : R 0 = [] := rfl
theorem R_pos {n : Nat} (h : 0 < n) : R n = ((n % 10000 : Nat) : Int) :: R (n / 10000) := dig_pos (by decide) h
theorem val_take_le' {B : Int} (l : List Int) {n : Nat} (h : l.length ≤ n) : val B (l.take n) = val B l := by rw [List.take_of_length_le h]
theorem at_spec (l : List Int) (i : Nat) : ∀ k, 1 ≤ k → ∀ F : Int → Option Res, callT (C k 149 [(.v (.c (.sl (.int .i64) l))), (.v (.c (.int .i64 (i : Int))))]) sh149 F = F (l.getD i 0) := by
  intro k hk F
  obtain ⟨k, rfl, hk'⟩ := succOf hk
  rw [ref01At.eq]
  simp only [iteA_eq]
  by_cases h : l.length ≤ i
  · rw [if_pos (by simpa using h), List.getD_eq_getElem?_getD, List.getElem?_eq_none h]; rfl
  · rw [if_neg (by simpa using h), if_pos (by omega)]; rfl
theorem trim_loop (l : List Int) : ∀ (j : Nat), j ≤ l.length → (l.length : Int) < 1000000000 → ∀ k n, j + 1 ≤ n → ∃ i, i ≤ j ∧ ref01Trim.l0 k n l (j : Int) = some ⟨[(.v (.c (.sl (.int .i64) (l.take i))))], []⟩ ∧ (∀ x, i ≤ x → x < j → l.getD x 0 = 0) ∧ (i = 0 ∨ l.getD (i - 1) 0 ≠ 0) := by
  intro j
  induction j with
  | zero =>
    intro hj hl k n hn
    obtain ⟨n, rfl, -⟩ := succOf hn
    refine ⟨0, Nat.le_refl _, ?_, fun x h1 h2 => absurd h2 (by omega), .inl rfl⟩
    rw [ref01Trim.l0_succ]
    simp only [iteA_eq]
    simp
  | succ j ih =>
    intro hj hl k n hn
    obtain ⟨n, rfl, hn'⟩ := succOf hn
    rw [ref01Trim.l0_succ]
    have w : Go.IntKind.i64.wrap (((j + 1 : Nat) : Int) - 1) = (j : Int) := by rw [wi (by omega) (by omega)]; omega
    simp only [iteA_eq, w]
    rw [if_pos (by simp), if_pos (by omega)]
    by_cases h0 : l.getD j 0 = 0
    · rw [if_pos (by simpa using h0)]
      obtain ⟨i, h1, h2, h3, h4⟩ := ih (by omega) hl k n hn'
      refine ⟨i, by omega, h2, fun x hx1 hx2 => ?_, h4⟩
      by_cases hx : x = j
      · subst hx; exact h0
      · exact h3 x hx1 (by omega)
    · rw [if_neg (by simpa using h0)]
      refine ⟨j + 1, Nat.le_refl _, ?_, fun x h1 h2 => absurd h2 (by omega), .inr (by simpa using h0)⟩
      rw [if_pos (by omega)]
      simp
theorem trim_spec (l : List Int) (n : Nat) (h : Dg 10000 l) (hv : val 10000 l = n) (hl : (l.length : Int) < 1000000000) : ∀ k, l.length + 2 ≤ k → ∀ F : List Int → Option Res, callT (C k 143 [(.v (.c (.sl (.int .i64) l)))]) sh143 F = F (R n) := by
  intro k hk F
  obtain ⟨k, rfl, hk'⟩ := succOf hk
  obtain ⟨i, h1, h2, h3, h4⟩ := trim_loop l l.length (Nat.le_refl _) hl k k hk'
  rw [ref01Trim.eq, h2, R_trim h hv h1 h3 h4]
  rfl
theorem rsmall_loop : ∀ (x : Nat) (out : List Int), x < 9223372036854775808 → out.length < 1000 → ∀ k n, x + 1 ≤ n → out.length + (R x).length < 1000 → ref01Small.l0 k n (x : Int) out = some ⟨[(.fresh (.int .i64) (out ++ R x))], []⟩ := by
  intro x
  induction x using Nat.strongRecOn with
  | ind x ih =>
    intro out hx ho k n hn hs
    obtain ⟨n, rfl, hn'⟩ := succOf hn
    rw [ref01Small.l0_succ]
    simp only [iteA_eq]
    by_cases h0 : x = 0
    · subst h0
      rw [if_neg (by simp), R_zero, List.append_nil]
    · rw [R_pos (by omega), List.length_cons] at hs
      have e1 : (x : Int).tdiv 10000 = ((x / 10000 : Nat) : Int) := by rw [Int.tdiv_eq_ediv_of_nonneg (by omega)]; omega
      have e2 : (x : Int).tmod 10000 = ((x % 10000 : Nat) : Int) := by rw [Int.tmod_eq_emod_of_nonneg (by omega)]; omega
      rw [if_pos (by simp; omega), if_pos (by rw [List.length_singleton]; omega), e1, e2, wi (by omega) (by omega), ih (x / 10000) (by omega) _ (by omega) (by rw [List.length_append, List.length_singleton]; omega) k n (by omega) (by rw [List.length_append, List.length_singleton]; omega), R_pos (show 0 < x by omega), List.append_assoc]
      rfl
theorem rsmall_spec (x : Nat) (hx : x < 9223372036854775808) : ∃ K, ∀ k, K ≤ k → ∀ F : List Int → Option Res, callT (C k 112 [(.v (.c (.int .i64 (x : Int))))]) sh112 F = F (R x) := by
  refine ⟨x + 2, fun k hk F => ?_⟩
  obtain ⟨k, rfl, hk'⟩ := succOf (n := x + 1) hk
  have hl : (R x).length ≤ 5 := R_len (by have : (10000 : Nat) ^ 5 = 100000000000000000000 := by decide
                                          omega)
  rw [ref01Small.eq, rsmall_loop x [] hx (by decide) k k hk' (by simp; omega)]
  rfl
theorem radd_loop {a b : List Int} (ha : Dg 10000 a) (hb : Dg 10000 b) (hN : max a.length b.length < 100000000) : ∀ (r i : Nat) (c : Int) (out : List Int), i + r = max a.length b.length + 1 → out.length = i → Dg 10000 out → (c = 0 ∨ c = 1) → (max a.length b.length < i → c = 0) →
    val 10000 out + 10000 ^ i * c = val 10000 (a.take i) + val 10000 (b.take i) → ∀ k n, 2 ≤ k → r + 1 ≤ n →
    ∃ (out' : List Int), out'.length ≤ max a.length b.length + 1 ∧ Dg 10000 out' ∧ val 10000 out' = val 10000 a + val 10000 b ∧
      ref01Add.l0 k n a b c (i : Int) out = callT (C k 143 [(.v (.c (.sl (.int .i64) out')))]) sh143 fun (y1 : List Int) => (some ⟨[(.v (.c (.sl (.int .i64) y1)))], []⟩) := by
  intro r
  induction r with
  | zero =>
    intro i c out hi ho hd hc hc0 hv k n hk hn
    obtain ⟨n, rfl, hn'⟩ := succOf hn
    have c0 := hc0 (by omega)
    subst c0
    refine ⟨out, by omega, hd, ?_, ?_⟩
    · rw [val_take_le' a (by omega), val_take_le' b (by omega)] at hv; omega
    · rw [ref01Add.l0_succ]
      simp only [iteA_eq]
      rw [if_pos (by simp; omega), if_pos (by simp; omega), if_neg (by decide)]
  | succ r ih =>
    intro i c out hi ho hd hc hc0 hv k n hk hn
    obtain ⟨n, rfl, hn'⟩ := succOf hn
    have xa := ha.getD (by decide) i
    have xb := hb.getD (by decide) i
    have more : (i < a.length ∨ i < b.length ∨ c = 1) → ∃ (out' : List Int), out'.length ≤ max a.length b.length + 1 ∧ Dg 10000 out' ∧ val 10000 out' = val 10000 a + val 10000 b ∧
      ref01Add.j6 k n a b c (i : Int) out = callT (C k 143 [(.v (.c (.sl (.int .i64) out')))]) sh143 fun (y1 : List Int) => (some ⟨[(.v (.c (.sl (.int .i64) y1)))], []⟩) := by
      intro hmore
      have hz : max a.length b.length < i + 1 → (a.getD i 0 + b.getD i 0 + c) / 10000 = 0 := by
        intro h
        have h1 : a.getD i 0 = 0 := by rw [List.getD_eq_getElem?_getD, List.getElem?_eq_none (by omega)]; rfl
        have h2 : b.getD i 0 = 0 := by rw [List.getD_eq_getElem?_getD, List.getElem?_eq_none (by omega)]; rfl
        rw [h1, h2]; omega
      obtain ⟨out', r1, r2, r3, r5⟩ := ih (i + 1) ((a.getD i 0 + b.getD i 0 + c) / 10000) (out ++ [(a.getD i 0 + b.getD i 0 + c) % 10000]) (by omega) (by rw [List.length_append, List.length_singleton, ho]) (hd.append (Dg.cons (by omega) (by omega) Dg.nil)) (by omega) hz (by
        rw [val_snoc, val_take_succ, val_take_succ, ho, Int.pow_succ]
        have e : (a.getD i 0 + b.getD i 0 + c) % 10000 + 10000 * ((a.getD i 0 + b.getD i 0 + c) / 10000) = a.getD i 0 + b.getD i 0 + c := Int.emod_add_mul_ediv _ _
        have := congrArg (10000 ^ i * ·) e
        simp only [Int.mul_add, ← Int.mul_assoc] at this
        omega) k n hk hn'
      refine ⟨out', r1, r2, r3, ?_⟩
      rw [ref01Add.j6_eq, at_spec _ _ k (by omega), at_spec _ _ k (by omega)]
      simp only [iteA_eq]
      rw [if_pos (by rw [List.length_singleton]; omega), wi (x := a.getD i 0 + b.getD i 0) (by omega) (by omega), wi (x := a.getD i 0 + b.getD i 0 + c) (by omega) (by omega), Int.tdiv_eq_ediv_of_nonneg (by omega), Int.tmod_eq_emod_of_nonneg (by omega), wi (by omega) (by omega), wi (by omega) (by omega)]
      exact r5
    rw [ref01Add.l0_succ]
    simp only [iteA_eq]
    by_cases h1 : i < a.length
    · rw [if_neg (by simp; omega)]
      exact more (.inl h1)
    · by_cases h2 : i < b.length
      · rw [if_pos (by simp; omega), if_neg (by simp; omega)]
        exact more (.inr (.inl h2))
      · rw [if_pos (by simp; omega), if_pos (by simp; omega)]
        rcases hc with h3 | h3
        · subst h3
          rw [if_neg (by decide)]
          refine ⟨out, by omega, hd, ?_, rfl⟩
          rw [val_take_le' a (by omega), val_take_le' b (by omega)] at hv; omega
        · rw [if_pos (by rw [h3]; decide)]
          exact more (.inr (.inr h3))
theorem radd_spec (a b : Nat) (ha : (R a).length < 10000000) (hb : (R b).length < 10000000) : ∃ K, ∀ k, K ≤ k → ∀ F : List Int → Option Res, callT (C k 113 [(.v (.c (.sl (.int .i64) (R a)))), (.v (.c (.sl (.int .i64) (R b))))]) sh113 F = F (R (a + b)) := by
  refine ⟨(R a).length + (R b).length + 10, fun k hk F => ?_⟩
  obtain ⟨k, rfl, hk'⟩ := succOf (n := (R a).length + (R b).length + 9) hk
  obtain ⟨out', r1, r2, r3, r5⟩ := radd_loop (R_dg a) (R_dg b) (by omega) (max (R a).length (R b).length + 1) 0 0 [] (by omega) rfl Dg.nil (.inl rfl) (fun _ => rfl) (by simp [val]) k k (by omega) (by omega)
  rw [R_val, R_val] at r3
  rw [ref01Add.eq, show ref01Add.l0 k k (R a) (R b) 0 0 [] = _ from r5, trim_spec out' (a + b) r2 (by omega) (by omega) k (by omega)]
  rfl
end TryzE
end
section
set_option linter.unusedSimpArgs false
set_option linter.unusedVariables false
namespace TryzE
open Go.Eng Go.Proofs Num
theorem rmul_in {a b : List Int} (ha : Dg 10000 a) (hb : Dg 10000 b) (hN : a.length + b.length + 1 < 100000000) {i : Nat} (hi : i < a.length) {out0 : List Int} (hz0 : ∀ x, i + b.length ≤ x → out0.getD x 0 = 0) :
    ∀ (r j : Nat) (c : Int) (out : List Int), j + r = b.length + 1 → out.length = a.length + b.length + 1 → Dg 10000 out → (0 ≤ c ∧ c < 10000) → (b.length < j → c = 0) →
    val 10000 out + 10000 ^ (i + j) * c = val 10000 out0 + 10000 ^ i * (a.getD i 0 * val 10000 (b.take j)) → (∀ x, i + j ≤ x → out.getD x 0 = out0.getD x 0) → ∀ k n n0, 2 ≤ k → r + 1 ≤ n →
    ∃ (out' : List Int), out'.length = a.length + b.length + 1 ∧ Dg 10000 out' ∧ val 10000 out' = val 10000 out0 + 10000 ^ i * (a.getD i 0 * val 10000 b) ∧ (∀ x, i + 1 + b.length ≤ x → out'.getD x 0 = 0) ∧
      ref01Mul.l1 k n n0 a b (i : Int) c (j : Int) out = ref01Mul.l0 k n0 a b ((i + 1 : Nat) : Int) out' := by
  intro r
  induction r with
  | zero =>
    intro j c out hj ho hd hc hc0 hv hz k n n0 hk hn
    obtain ⟨n, rfl, hn'⟩ := succOf hn
    have c0 := hc0 (by omega)
    subst c0
    refine ⟨out, ho, hd, ?_, ?_, ?_⟩
    · rw [val_take_le' b (by omega)] at hv; omega
    · intro x hx; rw [hz x (by omega), hz0 x (by omega)]
    · rw [ref01Mul.l1_succ]
      simp only [iteA_eq]
      rw [if_pos (by simp; omega), if_neg (by decide), wi (by omega) (by omega)]
      rfl
  | succ r ih =>
    intro j c out hj ho hd hc hc0 hv hz k n n0 hk hn
    obtain ⟨n, rfl, hn'⟩ := succOf hn
    have xa := ha.getD (by decide) i
    have xb := hb.getD (by decide) j
    have xo := hd.getD (by decide) (i + j)
    have t0 : 0 ≤ a.getD i 0 * b.getD j 0 := Int.mul_nonneg xa.1 xb.1
    have t1 : a.getD i 0 * b.getD j 0 ≤ 9999 * 9999 := Int.mul_le_mul (by omega) (by omega) xb.1 (by decide)
    have hlt : i + j < out.length := by omega
    have more : ∃ (out' : List Int), out'.length = a.length + b.length + 1 ∧ Dg 10000 out' ∧ val 10000 out' = val 10000 out0 + 10000 ^ i * (a.getD i 0 * val 10000 b) ∧ (∀ x, i + 1 + b.length ≤ x → out'.getD x 0 = 0) ∧
      ref01Mul.j9 k n n0 a b (i : Int) c (j : Int) out = ref01Mul.l0 k n0 a b ((i + 1 : Nat) : Int) out' := by
      generalize hT : a.getD i 0 * b.getD j 0 = T at *
      have hcz : b.length < j + 1 → (out.getD (i + j) 0 + T + c) / 10000 = 0 := by
        intro h
        have h1 : b.getD j 0 = 0 := by rw [List.getD_eq_getElem?_getD, List.getElem?_eq_none (by omega)]; rfl
        have h2 : out.getD (i + j) 0 = 0 := by rw [hz _ (Nat.le_refl _), hz0 _ (by omega)]
        rw [h2, ← hT, h1, Int.mul_zero]; omega
      obtain ⟨out', r1, r2, r3, r4, r5⟩ := ih (j + 1) ((out.getD (i + j) 0 + T + c) / 10000) (out.set (i + j) ((out.getD (i + j) 0 + T + c) % 10000)) (by omega) (by simpa using ho) (hd.set _ (by omega) (by omega)) (by omega) hcz (by
        rw [val_set _ _ _ hlt, val_take_succ, ← Nat.add_assoc, Int.pow_succ]
        have e : (out.getD (i + j) 0 + T + c) % 10000 + 10000 * ((out.getD (i + j) 0 + T + c) / 10000) = out.getD (i + j) 0 + T + c := Int.emod_add_mul_ediv _ _
        have := congrArg (10000 ^ (i + j) * ·) e
        simp only [Int.mul_add, ← Int.mul_assoc] at this
        have e2 : 10000 ^ i * (a.getD i 0 * (val 10000 (b.take j) + 10000 ^ j * b.getD j 0)) = 10000 ^ i * (a.getD i 0 * val 10000 (b.take j)) + 10000 ^ (i + j) * T := by
          rw [← hT, Int.pow_add, Int.mul_add, Int.mul_add]; congr 1; ac_rfl
        rw [e2, Int.mul_sub]
        omega) (by
        intro x hx
        rw [getD_set_ne (by omega), hz x (by omega)]) k n n0 hk hn'
      refine ⟨out', r1, r2, r3, r4, ?_⟩
      have w1 : Go.IntKind.i64.wrap ((i : Int) + (j : Int)) = ((i + j : Nat) : Int) := by rw [wi (by omega) (by omega)]; omega
      rw [ref01Mul.j9_eq, at_spec _ _ k (by omega)]
      simp only [iteA_eq, w1, Int.toNat_natCast]
      rw [if_pos (by omega), if_pos (by omega), hT, wi (x := T) (by omega) (by omega), wi (x := out.getD (i + j) 0 + T) (by omega) (by omega), wi (x := out.getD (i + j) 0 + T + c) (by omega) (by omega), Int.tdiv_eq_ediv_of_nonneg (by omega), Int.tmod_eq_emod_of_nonneg (by omega), wi (x := (out.getD (i + j) 0 + T + c) / 10000) (by omega) (by omega), wi (x := (j : Int) + 1) (by omega) (by omega), if_pos (by omega)]
      exact r5
    rw [ref01Mul.l1_succ]
    simp only [iteA_eq]
    by_cases h2 : j < b.length
    · rw [if_neg (by simp; omega)]
      exact more
    · rw [if_pos (by simp; omega)]
      by_cases h3 : 0 < c
      · rw [if_pos (by simp; omega)]
        exact more
      · rw [if_neg (by simp; omega)]
        have c0 : c = 0 := by omega
        subst c0
        refine ⟨out, ho, hd, ?_, ?_, ?_⟩
        · rw [val_take_le' b (by omega)] at hv; omega
        · intro x hx; rw [hz x (by omega), hz0 x (by omega)]
        · rw [wi (by omega) (by omega)]; rfl
theorem rmul_out {a b : List Int} (ha : Dg 10000 a) (hb : Dg 10000 b) (hN : a.length + b.length + 1 < 100000000) : ∀ (r i : Nat) (out : List Int), i + r = a.length → out.length = a.length + b.length + 1 → Dg 10000 out →
    val 10000 out = val 10000 (a.take i) * val 10000 b → (∀ x, i + b.length ≤ x → out.getD x 0 = 0) → ∀ k n, b.length + 4 ≤ k → r + 1 ≤ n →
    ∃ (out' : List Int), out'.length = a.length + b.length + 1 ∧ Dg 10000 out' ∧ val 10000 out' = val 10000 a * val 10000 b ∧
      ref01Mul.l0 k n a b (i : Int) out = callT (C k 143 [(.v (.c (.sl (.int .i64) out')))]) sh143 fun (y1 : List Int) => (some ⟨[(.v (.c (.sl (.int .i64) y1)))], []⟩) := by
  intro r
  induction r with
  | zero =>
    intro i out hi ho hd hv hz k n hk hn
    obtain ⟨n, rfl, hn'⟩ := succOf hn
    refine ⟨out, ho, hd, ?_, ?_⟩
    · rw [val_take_le' a (by omega)] at hv; exact hv
    · rw [ref01Mul.l0_succ]
      simp only [iteA_eq]
      rw [if_neg (by simp; omega)]
  | succ r ih =>
    intro i out hi ho hd hv hz k n hk hn
    obtain ⟨n, rfl, hn'⟩ := succOf hn
    obtain ⟨out1, s1, s2, s3, s4, s5⟩ := rmul_in ha hb hN (i := i) (by omega) (out0 := out) hz (b.length + 1) 0 0 out (by omega) ho hd (by omega) (fun h => rfl) (by simp [val]) (fun _ _ => rfl) k k n (by omega) (by omega)
    obtain ⟨out', r1, r2, r3, r5⟩ := ih (i + 1) out1 (by omega) s1 s2 (by
      rw [s3, hv, val_take_succ, Int.add_mul, Int.mul_assoc]) s4 k n hk hn'
    refine ⟨out', r1, r2, r3, ?_⟩
    rw [← r5, ← s5, ref01Mul.l0_succ]
    simp only [iteA_eq]
    rw [if_pos (by simp; omega)]
    rfl
theorem rmul_spec (a b : Nat) (ha : (R a).length < 10000000) (hb : (R b).length < 10000000) : ∃ K, ∀ k, K ≤ k → ∀ F : List Int → Option Res, callT (C k 105 [(.v (.c (.sl (.int .i64) (R a)))), (.v (.c (.sl (.int .i64) (R b))))]) sh105 F = F (R (a * b)) := by
  refine ⟨(R a).length + (R b).length + 10, fun k hk F => ?_⟩
  obtain ⟨k, rfl, hk'⟩ := succOf (n := (R a).length + (R b).length + 9) hk
  have hN : Go.IntKind.i64.wrap (Go.IntKind.i64.wrap (((R a).length : Int) + ((R b).length : Int)) + 1) = (((R a).length + (R b).length + 1 : Nat) : Int) := by rw [wi (x := ((R a).length : Int) + _) (by omega) (by omega), wi (by omega) (by omega)]; omega
  rw [ref01Mul.eq]
  simp only [iteA_eq, hN, Int.toNat_natCast]
  rw [if_pos (by omega)]
  obtain ⟨out', r1, r2, r3, r5⟩ := rmul_out (R_dg a) (R_dg b) (by omega) (R a).length 0 (List.replicate ((R a).length + (R b).length + 1) 0) (by omega) (by simp) (Dg.replicate (by decide) _) (by rw [val_replicate]; simp [val]) (by
    intro x _
    rw [List.getD_eq_getElem?_getD, List.getElem?_replicate]; split <;> rfl) k k (by omega) (by omega)
  rw [show ref01Mul.l0 k k (R a) (R b) 0 (List.replicate ((R a).length + (R b).length + 1) 0) = _ from r5]
  rw [R_val, R_val] at r3
  rw [trim_spec out' (a * b) r2 (by rw [r3, Int.natCast_mul]) (by omega) k (by omega)]
  rfl
end TryzE
end
section
set_option linter.unusedSimpArgs false
set_option linter.unusedVariables false
namespace TryzE
open Go.Eng Go.Proofs Num
theorem and_mask16 {x : Int} (hx : 0 ≤ x ∧ x < (18446744073709551616 : Int)) : andI .u64 x 65535 = x % 65536 := by
  unfold andI
  rw [BitVec.toNat_and, natOfInt64 hx, natOfInt64 (x := 65535) (by decide), show (65535 : Int).toNat = 2 ^ 16 - 1 from rfl, Nat.and_two_pow_sub_one_eq_mod, wu]
  omega
theorem R_len_of {n j : Nat} (h : n < 18446744073709551616 ^ j) : (R n).length ≤ 5 * j := R_len (Nat.lt_of_lt_of_le h (by rw [Nat.pow_mul]; exact Nat.pow_le_pow_left (by decide) _))
/-- sixteen bits more -/
theorem rof_step (l : List Int) (i : Nat) (hi : i < l.length) (x : Nat) (hx : x < 18446744073709551616) (hxi : l.getD i 0 = x) (h : Nat) (hh : h ≤ 3) (v : Nat) (hv : (R v).length < 1000000) :
    ∃ K, ∀ k, K ≤ k → ∀ n n0, ref01Of.l1 k (n + 1) n0 l (R v) (R 65536) (i : Int) (h : Int) = ref01Of.l1 k n n0 l (R (v * 65536 + x / 2 ^ (16 * h) % 65536)) (R 65536) (i : Int) ((h : Int) - 1) := by
  have h65 : (R 65536).length ≤ 2 := R_len (by decide)
  have hd : x / 2 ^ (16 * h) % 65536 < 65536 := Nat.mod_lt _ (by decide)
  have hm : (R (v * 65536)).length ≤ (R v).length + 2 := R_len (by
    rw [Nat.pow_add]
    exact Nat.lt_of_lt_of_le (Nat.mul_lt_mul_of_pos_right (R_lt v) (by decide)) (Nat.mul_le_mul_left _ (by decide)))
  obtain ⟨K1, hK1⟩ := rsmall_spec (x / 2 ^ (16 * h) % 65536) (by omega)
  obtain ⟨K2, hK2⟩ := rmul_spec v 65536 (by omega) (by omega)
  obtain ⟨K3, hK3⟩ := radd_spec (v * 65536) (x / 2 ^ (16 * h) % 65536) (by omega) (by
    have : (R (x / 2 ^ (16 * h) % 65536)).length ≤ 2 := R_len (by omega)
    omega)
  refine ⟨K1 + K2 + K3, fun k hk n n0 => ?_⟩
  have w : Go.IntKind.i64.wrap (16 * (h : Int)) = ((16 * h : Nat) : Int) := by rw [wi (by omega) (by omega)]; omega
  have e : Go.IntKind.i64.wrap (andI .u64 (shrI .u64 (x : Int) ((16 * h : Nat) : Int)) 65535) = ((x / 2 ^ (16 * h) % 65536 : Nat) : Int) := by
    rw [shr_eq (16 * h) (by omega)]
    have e1 : (x : Int) / 2 ^ (16 * h) = ((x / 2 ^ (16 * h) : Nat) : Int) := by rw [Int.natCast_ediv, Int.natCast_pow]; rfl
    have e2 : x / 2 ^ (16 * h) ≤ x := Nat.div_le_self _ _
    rw [e1]
    generalize x / 2 ^ (16 * h) = y at e2 ⊢
    rw [and_mask16 (by omega), wi (by omega) (by omega)]; omega
  rw [ref01Of.l1_succ]
  simp only [iteA_eq, w, Int.toNat_natCast]
  rw [if_pos (by simp), if_pos (by omega), if_neg (by omega), hxi, e, hK1 k (by omega), hK2 k (by omega), hK3 k (by omega), wi (by omega) (by omega)]
theorem rof_limb (l : List Int) (i : Nat) (hi : i < l.length) (x : Nat) (hx : x < 18446744073709551616) (hxi : l.getD i 0 = x) (v : Nat) (hv : (R v).length < 900000) (hil : (l.length : Int) < 1000000) :
    ∃ K, ∀ k, K ≤ k → ∀ n n0, 5 ≤ n → ref01Of.l1 k n n0 l (R v) (R 65536) (i : Int) 3 = ref01Of.l0 k n0 l (R (v * 18446744073709551616 + x)) (R 65536) ((i : Int) - 1) := by
  have grow : ∀ u d : Nat, d < 65536 → (R (u * 65536 + d)).length ≤ (R u).length + 2 := fun u d hd => R_len (by
    have := R_lt u
    have h1 : (u + 1) * 65536 ≤ 10000 ^ (R u).length * 10000 ^ 2 := Nat.mul_le_mul (by omega) (by decide)
    rw [Nat.pow_add]; omega)
  have md : ∀ h, x / 2 ^ (16 * h) % 65536 < 65536 := fun h => Nat.mod_lt _ (by decide)
  have g3 := grow v _ (md 3)
  have g2 := grow (v * 65536 + x / 2 ^ (16 * 3) % 65536) _ (md 2)
  have g1 := grow ((v * 65536 + x / 2 ^ (16 * 3) % 65536) * 65536 + x / 2 ^ (16 * 2) % 65536) _ (md 1)
  obtain ⟨K3, s3⟩ := rof_step l i hi x hx hxi 3 (by omega) v (by omega)
  obtain ⟨K2, s2⟩ := rof_step l i hi x hx hxi 2 (by omega) (v * 65536 + x / 2 ^ (16 * 3) % 65536) (by omega)
  obtain ⟨K1, s1⟩ := rof_step l i hi x hx hxi 1 (by omega) ((v * 65536 + x / 2 ^ (16 * 3) % 65536) * 65536 + x / 2 ^ (16 * 2) % 65536) (by omega)
  obtain ⟨K0, s0⟩ := rof_step l i hi x hx hxi 0 (by omega) (((v * 65536 + x / 2 ^ (16 * 3) % 65536) * 65536 + x / 2 ^ (16 * 2) % 65536) * 65536 + x / 2 ^ (16 * 1) % 65536) (by omega)
  refine ⟨K0 + K1 + K2 + K3, fun k hk n n0 hn => ?_⟩
  obtain ⟨n, rfl⟩ : ∃ m, n = m + 1 + 1 + 1 + 1 + 1 := ⟨n - 5, by omega⟩
  have t3 := s3 k (by omega) (n + 1 + 1 + 1 + 1) n0
  have t2 := s2 k (by omega) (n + 1 + 1 + 1) n0
  have t1 := s1 k (by omega) (n + 1 + 1) n0
  have t0 := s0 k (by omega) (n + 1) n0
  rw [show ref01Of.l1 k (n + 1 + 1 + 1 + 1 + 1) n0 l (R v) (R 65536) (i : Int) 3 = _ from t3]
  rw [show ∀ q, ref01Of.l1 k (n + 1 + 1 + 1 + 1) n0 l q (R 65536) (i : Int) (((3 : Nat) : Int) - 1) = ref01Of.l1 k (n + 1 + 1 + 1 + 1) n0 l q (R 65536) (i : Int) ((2 : Nat) : Int) from fun _ => rfl, t2]
  rw [show ∀ q, ref01Of.l1 k (n + 1 + 1 + 1) n0 l q (R 65536) (i : Int) (((2 : Nat) : Int) - 1) = ref01Of.l1 k (n + 1 + 1 + 1) n0 l q (R 65536) (i : Int) ((1 : Nat) : Int) from fun _ => rfl, t1]
  rw [show ∀ q, ref01Of.l1 k (n + 1 + 1) n0 l q (R 65536) (i : Int) (((1 : Nat) : Int) - 1) = ref01Of.l1 k (n + 1 + 1) n0 l q (R 65536) (i : Int) ((0 : Nat) : Int) from fun _ => rfl, t0]
  rw [ref01Of.l1_succ]
  simp only [iteA_eq]
  rw [if_neg (by decide), wi (by omega) (by omega)]
  have fin : (((v * 65536 + x / 2 ^ (16 * 3) % 65536) * 65536 + x / 2 ^ (16 * 2) % 65536) * 65536 + x / 2 ^ (16 * 1) % 65536) * 65536 + x / 2 ^ (16 * 0) % 65536 = v * 18446744073709551616 + x := by
    simp only [show (2 : Nat) ^ (16 * 3) = 281474976710656 from by decide, show (2 : Nat) ^ (16 * 2) = 4294967296 from by decide, show (2 : Nat) ^ (16 * 1) = 65536 from by decide, show (2 : Nat) ^ (16 * 0) = 1 from by decide]
    omega
  rw [fin]
theorem rof_loop (l : List Int) (hl : Dg (18446744073709551616 : Int) l) (hlen : l.length < 1000) : ∀ (j : Nat), j ≤ l.length → ∀ v : Nat, val (18446744073709551616 : Int) (l.drop j) = v → 
    ∃ K, ∀ k, K ≤ k → ∀ n, K ≤ n → ∀ N : Nat, val (18446744073709551616 : Int) l = N → ref01Of.l0 k n l (R v) (R 65536) ((j : Int) - 1) = some ⟨[(.v (.c (.sl (.int .i64) (R N))))], []⟩ := by
  intro j
  induction j with
  | zero =>
    intro hj v hv
    refine ⟨1, fun k hk n hn N hN => ?_⟩
    obtain ⟨n, rfl, hn'⟩ := succOf (n := 0) hn
    have : v = N := by rw [List.drop_zero, hN] at hv; omega
    subst this
    rw [ref01Of.l0_succ]
    simp only [iteA_eq]
    rw [if_neg (by decide)]
  | succ j ih =>
    intro hj v hv
    have xj := hl.getD (by decide) j
    obtain ⟨x, hx⟩ : ∃ x : Nat, l.getD j 0 = x := ⟨(l.getD j 0).toNat, by omega⟩
    have hvlt : v < 18446744073709551616 ^ l.length := by
      have h1 := val_lt (B := (18446744073709551616 : Int)) (by decide) (hl.drop (j + 1))
      rw [hv, List.length_drop] at h1
      have h2 : (18446744073709551616 : Int) ^ (l.length - (j + 1)) ≤ (18446744073709551616 : Int) ^ l.length := pow_mono (by decide) (by omega)
      have h3 : ((18446744073709551616 ^ l.length : Nat) : Int) = (18446744073709551616 : Int) ^ l.length := by rw [Int.natCast_pow]; rfl
      omega
    have hRv := R_len_of hvlt
    obtain ⟨K1, hK1⟩ := rof_limb l j (by omega) x (by omega) hx v (by omega) (by omega)
    obtain ⟨K2, hK2⟩ := ih (by omega) (v * 18446744073709551616 + x) (by rw [val_drop l j (by omega), hv, hx, Int.natCast_add, Int.natCast_mul, Int.mul_comm, Int.add_comm]; rfl)
    refine ⟨K1 + K2 + 6, fun k hk n hn N hN => ?_⟩
    obtain ⟨n, rfl, hn'⟩ := succOf (n := K1 + K2 + 5) hn
    rw [ref01Of.l0_succ]
    simp only [iteA_eq]
    rw [if_pos (by simp), show (((j + 1 : Nat) : Int) - 1) = (j : Int) by omega, hK1 k (by omega) k n (by omega)]
    exact hK2 k (by omega) n (by omega) N hN
theorem rof_spec (l : List Int) (N : Nat) (hl : Dg (18446744073709551616 : Int) l) (hv : val (18446744073709551616 : Int) l = N) (hlen : l.length < 1000) : ∃ K, ∀ k, K ≤ k → ∀ F : List Int → Option Res, callT (C k 63 [(.v (.c (.sl (.int .u64) l)))]) sh63 F = F (R N) := by
  obtain ⟨K1, hK1⟩ := rsmall_spec 65536 (by decide)
  obtain ⟨K, hK⟩ := rof_loop l hl hlen l.length (Nat.le_refl _) 0 (by rw [List.drop_of_length_le (Nat.le_refl _)]; rfl)
  refine ⟨K1 + K + 1, fun k hk F => ?_⟩
  obtain ⟨k, rfl, hk'⟩ := succOf (n := K1 + K) hk
  rw [ref01Of.eq, show ((65536 : Int)) = ((65536 : Nat) : Int) from rfl, hK1 k (by omega), wi (by omega) (by omega), show ([] : List Int) = R 0 from rfl, hK k (by omega) k (by omega) N hv]
  rfl
end TryzE
end
section
set_option linter.unusedSimpArgs false
set_option linter.unusedVariables false
namespace TryzE
open Go.Eng Go.Proofs Num KD
theorem sub64_spec {x y c : Int} (hx : 0 ≤ x ∧ x < (18446744073709551616 : Int)) (hy : 0 ≤ y ∧ y < (18446744073709551616 : Int)) (hc : c = 0 ∨ c = 1) : ∀ k, 1 ≤ k → ∀ F : Int × Int → Option Res, callT (C k 159 [(.v (.c (.int .u64 x))), (.v (.c (.int .u64 y))), (.v (.c (.int .u64 c)))]) sh159 F = F ((x - y - c) % (18446744073709551616 : Int), -((x - y - c) / (18446744073709551616 : Int))) := by
  intro k hk F
  obtain ⟨k, rfl, -⟩ := succOf hk
  have h : (u64ok x && u64ok y && (decide (c = 0) || decide (c = 1))) = true := by rw [u64ok_of hx.1 hx.2, u64ok_of hy.1 hy.2]; simpa using hc
  have e : xSub64 [(.v (.c (.int .u64 x))), (.v (.c (.int .u64 y))), (.v (.c (.int .u64 c)))] = some ⟨[(.v (.c (.int .u64 ((x - y - c) % (18446744073709551616 : Int))))), (.v (.c (.int .u64 (-((x - y - c) / (18446744073709551616 : Int))))))], []⟩ := by
    unfold xSub64
    simp only [h]
  rw [C_X (g := 159) (h := xSub64) rfl, e]
  rfl
theorem split64 (s : Nat) (hs : s ≤ 64) : (2 : Int) ^ s * 2 ^ (64 - s) = (18446744073709551616 : Int) := by
  rw [← Int.pow_add, show s + (64 - s) = 64 by omega]; rfl
theorem two_pos (s : Nat) : 0 < (2 : Int) ^ s := Int.pow_pos (by decide)
theorem shl_mul {x : Int} (s : Nat) (hs : s ≤ 64) : x * 2 ^ s % (18446744073709551616 : Int) = (x % 2 ^ (64 - s)) * 2 ^ s := by
  rw [← split64 s hs, Int.mul_comm x, Int.mul_emod_mul_of_pos _ _ (two_pos s), Int.mul_comm]
theorem shl_div {x : Int} (s : Nat) (hs : s ≤ 64) : x * 2 ^ s / (18446744073709551616 : Int) = x / 2 ^ (64 - s) := by
  rw [← split64 s hs, Int.mul_comm x, Int.mul_ediv_mul_of_pos _ _ (two_pos s)]
theorem getD_zero_of {l : List Int} {i : Nat} (h : l.length ≤ i) : l.getD i 0 = 0 := by simp [List.getD_eq_getElem?_getD, h]
theorem orI_comm (k : Go.IntKind) (a b : Int) : orI k a b = orI k b a := by
  unfold orI
  rw [BitVec.or_comm]
/-! ## quot.moved -/
theorem moved_loop {l : List Int} (hl : Dg (18446744073709551616 : Int) l) (hN : l.length < 100000000) {s : Nat} (hs : s < 64) : ∀ (r i : Nat) (out : List Int), i + r = l.length → out.length = l.length + 1 → Dg (18446744073709551616 : Int) out →
    out.getD i 0 < 2 ^ s → (∀ x, i < x → out.getD x 0 = 0) → val (18446744073709551616 : Int) out = 2 ^ s * val (18446744073709551616 : Int) (l.take i) → ∀ k n, r + 1 ≤ n →
    ∃ (out' : List Int), out'.length = l.length + 1 ∧ Dg (18446744073709551616 : Int) out' ∧ val (18446744073709551616 : Int) out' = 2 ^ s * val (18446744073709551616 : Int) l ∧
      quotMoved.l0 k n (s : Int) l (l.length : Int) (i : Int) out = some ⟨[(.fresh (.int .u64) out')], []⟩ := by
  intro r
  induction r with
  | zero =>
    intro i out hi ho hd hc hz hv k n hn
    obtain ⟨n, rfl, hn'⟩ := succOf hn
    have : i = l.length := by omega
    subst this
    refine ⟨out, ho, hd, ?_, ?_⟩
    · rw [hv, List.take_of_length_le (Nat.le_refl _)]
    · rw [quotMoved.l0_succ]
      simp only [iteA_eq]
      rw [if_neg (by simp)]
  | succ r ih =>
    intro i out hi ho hd hc hz hv k n hn
    obtain ⟨n, rfl, hn'⟩ := succOf hn
    have xl := hl.getD (by decide) i
    have xo := hd.getD (by decide) i
    have hlt : i < out.length := by omega
    have hlt1 : i + 1 < out.length := by omega
    have hb := split64 s (by omega)
    have p1 := two_pos s
    have p2 := two_pos (64 - s)
    generalize hX : l.getD i 0 = x at *
    have m0 : 0 ≤ x % 2 ^ (64 - s) ∧ x % 2 ^ (64 - s) < 2 ^ (64 - s) := ⟨Int.emod_nonneg _ (by omega), Int.emod_lt_of_pos _ p2⟩
    have m1 : (x % 2 ^ (64 - s)) * 2 ^ s + 2 ^ s ≤ (18446744073709551616 : Int) := by
      have : (x % 2 ^ (64 - s) + 1) * 2 ^ s ≤ 2 ^ (64 - s) * 2 ^ s := Int.mul_le_mul_of_nonneg_right (by omega) (by omega)
      rw [Int.mul_comm (2 ^ (64 - s)), hb, Int.add_mul] at this
      omega
    have m2 : 0 ≤ (x % 2 ^ (64 - s)) * 2 ^ s := Int.mul_nonneg m0.1 (by omega)
    have hor : orI .u64 (out.getD i 0) (shlI .u64 x (s : Int)) = x * 2 ^ s % (18446744073709551616 : Int) + out.getD i 0 := by
      rw [shl_eq s (by omega), shl_mul s (by omega), orI_comm, or_add s ⟨m0.1, by omega⟩ ⟨xo.1, hc⟩ (by omega)]
    have hsh : shrI .u64 x (Go.IntKind.u64.wrap ((64 : Int) - (s : Int))) = x * 2 ^ s / (18446744073709551616 : Int) := by
      rw [wu, show ((64 : Int) - (s : Int)) % (18446744073709551616 : Int) = ((64 - s : Nat) : Int) by omega, shr_eq (64 - s) (by omega), shl_div s (by omega)]
    have d0 : 0 ≤ x * 2 ^ s % (18446744073709551616 : Int) + out.getD i 0 ∧ x * 2 ^ s % (18446744073709551616 : Int) + out.getD i 0 < (18446744073709551616 : Int) := by rw [shl_mul s (by omega)]; omega
    have d1 : 0 ≤ x * 2 ^ s / (18446744073709551616 : Int) ∧ x * 2 ^ s / (18446744073709551616 : Int) < 2 ^ s := by
      have h0 : 0 ≤ x * 2 ^ s := Int.mul_nonneg xl.1 (by omega)
      refine ⟨Int.ediv_nonneg h0 (by decide), Int.ediv_lt_of_lt_mul (by decide) ?_⟩
      rw [Int.mul_comm]
      exact Int.mul_lt_mul_of_pos_left xl.2 p1
    have d2 : (2 : Int) ^ s ≤ (18446744073709551616 : Int) := by
      have : (2 : Int) ^ s * 1 ≤ 2 ^ s * 2 ^ (64 - s) := Int.mul_le_mul_of_nonneg_left (by omega) (by omega)
      omega
    obtain ⟨out', r1, r2, r3, r4⟩ := ih (i + 1) ((out.set i (x * 2 ^ s % (18446744073709551616 : Int) + out.getD i 0)).set (i + 1) (x * 2 ^ s / (18446744073709551616 : Int))) (by omega) (by simpa using ho) ((hd.set i d0.1 d0.2).set (i + 1) d1.1 (by omega))
      (by rw [getD_set_self (by simpa using hlt1)]; exact d1.2)
      (by intro y hy; rw [getD_set_ne (by omega), getD_set_ne (by omega), hz y (by omega)])
      (by
        rw [val_set _ _ _ (by simpa using hlt1), val_set _ _ _ hlt, getD_set_ne (by omega), hz (i + 1) (by omega), hv, val_take_succ, hX, Int.pow_succ]
        have := Int.mul_ediv_add_emod (x * 2 ^ s) (18446744073709551616 : Int)
        generalize hq : x * 2 ^ s / (18446744073709551616 : Int) = Q at *
        generalize hm : x * 2 ^ s % (18446744073709551616 : Int) = M at *
        have e : (18446744073709551616 : Int) ^ i * (x * 2 ^ s) = (18446744073709551616 : Int) ^ i * ((18446744073709551616 : Int) * Q + M) := by rw [this]
        grind) k n hn'
    refine ⟨out', r1, r2, r3, ?_⟩
    rw [← r4, quotMoved.l0_succ]
    simp only [iteA_eq, Int.toNat_natCast]
    have w : Go.IntKind.i64.wrap ((i : Int) + 1) = ((i + 1 : Nat) : Int) := by rw [wi (by omega) (by omega)]; rfl
    rw [if_pos (by simp; omega), if_pos (by omega), if_pos (by omega), if_neg (by omega), if_pos (by omega), if_neg (by rw [wu]; omega), w, if_pos (by simp; omega), hX, hor, hsh, Int.toNat_natCast]
theorem rep_get {n x : Nat} : (List.replicate n (0 : Int)).getD x 0 = 0 := by
  simp [List.getD_eq_getElem?_getD, List.getElem?_replicate]; split <;> rfl
theorem rep_dg (n : Nat) : Dg (18446744073709551616 : Int) (List.replicate n (0 : Int)) := Dg.replicate (by decide) _
theorem moved_eq' (k : Nat) (l : List Int) (s : Nat) (hN : l.length < 100000000) : C (k + 1) 175 [(.v (.c (.sl (.int .u64) l))), (.v (.c (.int .u64 (s : Int))))] = quotMoved.l0 k k (s : Int) l (l.length : Int) ((0 : Nat) : Int) (List.replicate (l.length + 1) 0) := by
  have w : Go.IntKind.i64.wrap ((l.length : Int) + 1) = ((l.length + 1 : Nat) : Int) := by rw [wi (by omega) (by omega)]; rfl
  rw [quotMoved.eq, w]
  simp only [iteA_eq]
  rw [if_pos (by omega), Int.toNat_natCast]
  rfl
theorem moved_spec {l : List Int} (hl : Dg (18446744073709551616 : Int) l) (hN : l.length < 100000000) {s : Nat} (hs : s < 64) (k : Nat) (hk : l.length + 3 ≤ k) :
    ∃ (out' : List Int), out'.length = l.length + 1 ∧ Dg (18446744073709551616 : Int) out' ∧ val (18446744073709551616 : Int) out' = 2 ^ s * val (18446744073709551616 : Int) l ∧
      ∀ F : List Int → Option Res, callT (C k 175 [(.v (.c (.sl (.int .u64) l))), (.v (.c (.int .u64 (s : Int))))]) sh175 F = F out' := by
  obtain ⟨k, rfl, hk'⟩ := succOf (n := l.length + 2) hk
  obtain ⟨out', r1, r2, r3, r4⟩ := moved_loop hl hN hs l.length 0 (List.replicate (l.length + 1) 0) (Nat.zero_add _) List.length_replicate (rep_dg _) (by rw [rep_get]; exact two_pos s)
    (fun x _ => rep_get) (by rw [val_replicate, List.take_zero]; exact (Int.mul_zero _).symm) k k (by omega)
  refine ⟨out', r1, r2, r3, fun F => ?_⟩
  rw [moved_eq' k l s hN, r4]
  rfl
/-! ## quot.less -/
theorem less_loop {d : List Int} (hd : Dg (18446744073709551616 : Int) d) {q : Int} (hq : 0 ≤ q ∧ q < (18446744073709551616 : Int)) {N : Nat} (hN : d.length + 1 = N) (hN' : N < 100000000) {U : Int} : ∀ (r i : Nat) (c b : Int) (u : List Int), i + r = d.length → u.length = N → Dg (18446744073709551616 : Int) u → (0 ≤ c ∧ c < (18446744073709551616 : Int)) → (b = 0 ∨ b = 1) →
    val (18446744073709551616 : Int) u = U - q * val (18446744073709551616 : Int) (d.take i) + (18446744073709551616 : Int) ^ i * (c + b) → ∀ k n, 2 ≤ k → r + 1 ≤ n →
    ∃ (u' : List Int) (b' : Int), u'.length = N ∧ Dg (18446744073709551616 : Int) u' ∧ (b' = 0 ∨ b' = 1) ∧ val (18446744073709551616 : Int) u' = U - q * val (18446744073709551616 : Int) d + (18446744073709551616 : Int) ^ N * b' ∧
      quotLess.l0 k n d q c b d (d.length : Int) (i : Int) u = some ⟨[(.v (.c (.int .u64 b')))], [⟨(.int .u64), u'⟩]⟩ := by
  intro r
  induction r with
  | zero =>
    intro i c b u hi hu hud hc hb hv k n hk hn
    obtain ⟨n, rfl, hn'⟩ := succOf hn
    have : i = d.length := by omega
    subst this
    have xu := hud.getD (by decide) d.length
    rw [List.take_of_length_le (Nat.le_refl _)] at hv
    refine ⟨u.set d.length ((u.getD d.length 0 - c - b) % (18446744073709551616 : Int)), -((u.getD d.length 0 - c - b) / (18446744073709551616 : Int)), by simpa using hu, hud.set _ (by omega) (by omega), by omega, ?_, ?_⟩
    · rw [val_set _ _ _ (by omega), hv, ← hN, Int.pow_succ]
      have := Int.mul_ediv_add_emod (u.getD d.length 0 - c - b) (18446744073709551616 : Int)
      generalize (u.getD d.length 0 - c - b) / (18446744073709551616 : Int) = Q at *
      generalize (u.getD d.length 0 - c - b) % (18446744073709551616 : Int) = M at *
      have e : (18446744073709551616 : Int) ^ d.length * M = (18446744073709551616 : Int) ^ d.length * (u.getD d.length 0 - c - b - (18446744073709551616 : Int) * Q) := by rw [show M = u.getD d.length 0 - c - b - (18446744073709551616 : Int) * Q by omega]
      grind
    · rw [quotLess.l0_succ]
      simp only [iteA_eq, Int.toNat_natCast]
      rw [if_neg (by simp), if_pos (by omega), sub64_spec xu hc hb k (by omega), if_pos (by omega)]
  | succ r ih =>
    intro i c b u hi hu hud hc hb hv k n hk hn
    obtain ⟨n, rfl, hn'⟩ := succOf hn
    have xu := hud.getD (by decide) i
    have xd := hd.getD (by decide) i
    have hlt : i < u.length := by omega
    have t0 : 0 ≤ d.getD i 0 * q := Int.mul_nonneg xd.1 hq.1
    have t1 : d.getD i 0 * q ≤ ((18446744073709551616 : Int) - 1) * ((18446744073709551616 : Int) - 1) := Int.mul_le_mul (by omega) (by omega) hq.1 (by omega)
    generalize hT : d.getD i 0 * q = T at *
    have a0 : 0 ≤ (T % (18446744073709551616 : Int) + c + 0) % (18446744073709551616 : Int) ∧ (T % (18446744073709551616 : Int) + c + 0) % (18446744073709551616 : Int) < (18446744073709551616 : Int) := by omega
    have a1 : (T % (18446744073709551616 : Int) + c + 0) / (18446744073709551616 : Int) = 0 ∨ (T % (18446744073709551616 : Int) + c + 0) / (18446744073709551616 : Int) = 1 := by omega
    have a2 : 0 ≤ T / (18446744073709551616 : Int) + (T % (18446744073709551616 : Int) + c + 0) / (18446744073709551616 : Int) ∧ T / (18446744073709551616 : Int) + (T % (18446744073709551616 : Int) + c + 0) / (18446744073709551616 : Int) < (18446744073709551616 : Int) := by omega
    obtain ⟨u', b', r1, r2, r3, r4, r5⟩ := ih (i + 1) (T / (18446744073709551616 : Int) + (T % (18446744073709551616 : Int) + c + 0) / (18446744073709551616 : Int)) (-((u.getD i 0 - (T % (18446744073709551616 : Int) + c + 0) % (18446744073709551616 : Int) - b) / (18446744073709551616 : Int))) (u.set i ((u.getD i 0 - (T % (18446744073709551616 : Int) + c + 0) % (18446744073709551616 : Int) - b) % (18446744073709551616 : Int))) (by omega) (by simpa using hu) (hud.set i (by omega) (by omega)) a2 (by omega) (by
      rw [val_set _ _ _ hlt, hv, val_take_succ, Int.pow_succ]
      have e1 := Int.mul_ediv_add_emod T (18446744073709551616 : Int)
      have e2 := Int.mul_ediv_add_emod (T % (18446744073709551616 : Int) + c + 0) (18446744073709551616 : Int)
      have e3 := Int.mul_ediv_add_emod (u.getD i 0 - (T % (18446744073709551616 : Int) + c + 0) % (18446744073709551616 : Int) - b) (18446744073709551616 : Int)
      generalize (u.getD i 0 - (T % (18446744073709551616 : Int) + c + 0) % (18446744073709551616 : Int) - b) / (18446744073709551616 : Int) = Q3 at *
      generalize (u.getD i 0 - (T % (18446744073709551616 : Int) + c + 0) % (18446744073709551616 : Int) - b) % (18446744073709551616 : Int) = M3 at *
      generalize (T % (18446744073709551616 : Int) + c + 0) / (18446744073709551616 : Int) = Q2 at *
      generalize (T % (18446744073709551616 : Int) + c + 0) % (18446744073709551616 : Int) = M2 at *
      generalize T / (18446744073709551616 : Int) = Q1 at *
      generalize T % (18446744073709551616 : Int) = M1 at *
      grind) k n hk hn'
    refine ⟨u', b', r1, r2, r3, r4, ?_⟩
    rw [← r5, quotLess.l0_succ]
    simp only [iteA_eq, Int.toNat_natCast]
    rw [if_pos (by simp; omega), if_pos (by omega), mul64_spec xd hq k (by omega), hT, add64_spec (by omega) hc (.inl rfl) k (by omega), if_pos (by omega), sub64_spec xu a0 hb k (by omega), if_pos (by omega)]
    simp only [wu]
    rw [wi (by omega) (by omega), Int.emod_eq_of_lt a2.1 a2.2]
    rfl
theorem less_spec {u d : List Int} (hud : Dg (18446744073709551616 : Int) u) (hd : Dg (18446744073709551616 : Int) d) {q : Int} (hq : 0 ≤ q ∧ q < (18446744073709551616 : Int)) (hu : u.length = d.length + 1) (hN : d.length < 10000000) (k : Nat) (hk : d.length + 5 ≤ k) :
    ∃ (u' : List Int) (b' : Int), u'.length = d.length + 1 ∧ Dg (18446744073709551616 : Int) u' ∧ (b' = 0 ∨ b' = 1) ∧ val (18446744073709551616 : Int) u' = val (18446744073709551616 : Int) u - q * val (18446744073709551616 : Int) d + (18446744073709551616 : Int) ^ (d.length + 1) * b' ∧
      ∀ F : Int × List Int → Option Res, callT (C k 177 [(.lent ⟨(.int .u64), u⟩), (.v (.c (.sl (.int .u64) d))), (.v (.c (.int .u64 q)))]) sh177 F = F (b', u') := by
  obtain ⟨k, rfl, hk'⟩ := succOf (n := d.length + 4) hk
  obtain ⟨u', b', r1, r2, r3, r4, r5⟩ := less_loop hd hq (N := d.length + 1) rfl (by omega) (U := val (18446744073709551616 : Int) u) d.length 0 0 0 u (by omega) hu hud (by omega) (.inl rfl) (by simp [val]) k k (by omega) (by omega)
  refine ⟨u', b', r1, r2, r3, r4, fun F => ?_⟩
  rw [quotLess.eq, show quotLess.l0 k k d q 0 0 d (d.length : Int) 0 u = _ from r5]
  rfl
/-! ## quot.back -/
theorem back_loop {d : List Int} (hd : Dg (18446744073709551616 : Int) d) {N : Nat} (hN : d.length + 1 = N) (hN' : N < 100000000) {U : Int} : ∀ (r i : Nat) (c : Int) (u : List Int), i + r = d.length → u.length = N → Dg (18446744073709551616 : Int) u → (c = 0 ∨ c = 1) →
    val (18446744073709551616 : Int) u = U + val (18446744073709551616 : Int) (d.take i) - (18446744073709551616 : Int) ^ i * c → ∀ k n, 2 ≤ k → r + 1 ≤ n →
    ∃ (u' : List Int) (b' : Int), u'.length = N ∧ Dg (18446744073709551616 : Int) u' ∧ val (18446744073709551616 : Int) u' = U + val (18446744073709551616 : Int) d - (18446744073709551616 : Int) ^ N * b' ∧
      quotBack.l0 k n d c d (d.length : Int) (i : Int) u = some ⟨[], [⟨(.int .u64), u'⟩]⟩ := by
  intro r
  induction r with
  | zero =>
    intro i c u hi hu hud hc hv k n hk hn
    obtain ⟨n, rfl, hn'⟩ := succOf hn
    have : i = d.length := by omega
    subst this
    have xu := hud.getD (by decide) d.length
    rw [List.take_of_length_le (Nat.le_refl _)] at hv
    refine ⟨u.set d.length ((u.getD d.length 0 + c) % (18446744073709551616 : Int)), (u.getD d.length 0 + c) / (18446744073709551616 : Int), by simpa using hu, hud.set _ (by omega) (by omega), ?_, ?_⟩
    · rw [val_set _ _ _ (by omega), hv, ← hN, Int.pow_succ]
      have := Int.mul_ediv_add_emod (u.getD d.length 0 + c) (18446744073709551616 : Int)
      generalize (u.getD d.length 0 + c) / (18446744073709551616 : Int) = Q at *
      generalize (u.getD d.length 0 + c) % (18446744073709551616 : Int) = M at *
      have e : (18446744073709551616 : Int) ^ d.length * M = (18446744073709551616 : Int) ^ d.length * (u.getD d.length 0 + c - (18446744073709551616 : Int) * Q) := by rw [show M = u.getD d.length 0 + c - (18446744073709551616 : Int) * Q by omega]
      grind
    · rw [quotBack.l0_succ]
      simp only [iteA_eq, Int.toNat_natCast, wu]
      rw [if_neg (by simp), if_pos (by omega), if_pos (by omega)]
  | succ r ih =>
    intro i c u hi hu hud hc hv k n hk hn
    obtain ⟨n, rfl, hn'⟩ := succOf hn
    have xu := hud.getD (by decide) i
    have xd := hd.getD (by decide) i
    have hlt : i < u.length := by omega
    obtain ⟨u', b', r1, r2, r3, r4⟩ := ih (i + 1) ((u.getD i 0 + d.getD i 0 + c) / (18446744073709551616 : Int)) (u.set i ((u.getD i 0 + d.getD i 0 + c) % (18446744073709551616 : Int))) (by omega) (by simpa using hu) (hud.set i (by omega) (by omega)) (by omega) (by
      rw [val_set _ _ _ hlt, hv, val_take_succ, Int.pow_succ]
      have e1 := Int.mul_ediv_add_emod (u.getD i 0 + d.getD i 0 + c) (18446744073709551616 : Int)
      generalize (u.getD i 0 + d.getD i 0 + c) / (18446744073709551616 : Int) = Q at *
      generalize (u.getD i 0 + d.getD i 0 + c) % (18446744073709551616 : Int) = M at *
      have e : (18446744073709551616 : Int) ^ i * M = (18446744073709551616 : Int) ^ i * (u.getD i 0 + d.getD i 0 + c - (18446744073709551616 : Int) * Q) := by rw [show M = u.getD i 0 + d.getD i 0 + c - (18446744073709551616 : Int) * Q by omega]
      grind) k n hk hn'
    refine ⟨u', b', r1, r2, r3, ?_⟩
    rw [← r4, quotBack.l0_succ]
    simp only [iteA_eq, Int.toNat_natCast]
    rw [if_pos (by simp; omega), if_pos (by omega), if_pos (by omega), add64_spec xu xd hc k (by omega), if_pos (by omega), wi (by omega) (by omega)]
    rfl
theorem back_spec {u d : List Int} (hud : Dg (18446744073709551616 : Int) u) (hd : Dg (18446744073709551616 : Int) d) (hu : u.length = d.length + 1) (hN : d.length < 10000000) (k : Nat) (hk : d.length + 5 ≤ k) :
    ∃ (u' : List Int) (b' : Int), u'.length = d.length + 1 ∧ Dg (18446744073709551616 : Int) u' ∧ val (18446744073709551616 : Int) u' = val (18446744073709551616 : Int) u + val (18446744073709551616 : Int) d - (18446744073709551616 : Int) ^ (d.length + 1) * b' ∧
      ∀ F : List Int → Option Res, callT (C k 178 [(.lent ⟨(.int .u64), u⟩), (.v (.c (.sl (.int .u64) d)))]) sh178 F = F u' := by
  obtain ⟨k, rfl, hk'⟩ := succOf (n := d.length + 4) hk
  obtain ⟨u', b', r1, r2, r3, r4⟩ := back_loop hd (N := d.length + 1) rfl (by omega) (U := val (18446744073709551616 : Int) u) d.length 0 0 u (by omega) hu hud (.inl rfl) (by simp [val]) k k (by omega) (by omega)
  refine ⟨u', b', r1, r2, r3, fun F => ?_⟩
  rw [quotBack.eq, show quotBack.l0 k k d 0 d (d.length : Int) 0 u = _ from r4]
  rfl
end TryzE
end
section
set_option linter.unusedSimpArgs false
set_option linter.unusedVariables false
namespace TryzE
open Go.Eng Go.Proofs Num KD
theorem val2 {l : List Int} {m : Nat} (hl : l.length = m + 2) : val (18446744073709551616 : Int) l = (l.getD (m + 1) 0 * (18446744073709551616 : Int) + l.getD m 0) * (18446744073709551616 : Int) ^ m + val (18446744073709551616 : Int) (l.take m) := by
  rw [val_take_drop (B := (18446744073709551616 : Int)) l m (by omega), TryzE.val_drop l m (by omega), TryzE.val_drop l (m + 1) (by omega), List.drop_eq_nil_of_le (by omega)]
  simp only [val]
  grind
theorem val3 {l : List Int} {m : Nat} (hl : l.length = m + 3) : val (18446744073709551616 : Int) l = ((l.getD (m + 2) 0 * (18446744073709551616 : Int) + l.getD (m + 1) 0) * (18446744073709551616 : Int) + l.getD m 0) * (18446744073709551616 : Int) ^ m + val (18446744073709551616 : Int) (l.take m) := by
  rw [val_take_drop (B := (18446744073709551616 : Int)) l m (by omega), TryzE.val_drop l m (by omega), TryzE.val_drop l (m + 1) (by omega), TryzE.val_drop l (m + 2) (by omega), List.drop_eq_nil_of_le (by omega)]
  simp only [val]
  grind
theorem take_bd {l : List Int} (h : Dg (18446744073709551616 : Int) l) {m : Nat} (hm : m ≤ l.length) : 0 ≤ val (18446744073709551616 : Int) (l.take m) ∧ val (18446744073709551616 : Int) (l.take m) < (18446744073709551616 : Int) ^ m := by
  have h1 := val_nonneg (B := (18446744073709551616 : Int)) (by decide) (h.take m)
  have h2 := val_lt (B := (18446744073709551616 : Int)) (by decide) (h.take m)
  rw [List.length_take, Nat.min_eq_left hm] at h2
  exact ⟨h1, h2⟩
abbrev rt (u : List Int) (g : Int) : Option Res := some ⟨[(.v (.c (.int .u64 g)))], [⟨(.int .u64), u⟩]⟩
/-- One more look: the guess is too great by one at least, if it is not handed back. -/
theorem guess_eq {u d : List Int} (hu : Dg (18446744073709551616 : Int) u) (hd : Dg (18446744073709551616 : Int) d) {m : Nat} (hdl : d.length = m + 2) (hul : u.length = m + 3) (hm : m < 100000000) (hn : 9223372036854775808 ≤ d.getD (m + 1) 0) (hlt : val (18446744073709551616 : Int) u < (18446744073709551616 : Int) * val (18446744073709551616 : Int) d) {q : Int} (hq : q * val (18446744073709551616 : Int) d ≤ val (18446744073709551616 : Int) u) (hq1 : q < (18446744073709551616 : Int)) (hq0 : 0 ≤ q) (k : Nat) (hk : 6 ≤ k) :
    ∃ g, q ≤ g ∧ g < (18446744073709551616 : Int) ∧ C (k + 1) 176 [(.lent ⟨(.int .u64), u⟩), (.v (.c (.sl (.int .u64) d)))] = some ⟨[(.v (.c (.int .u64 g)))], [⟨(.int .u64), u⟩]⟩ := by
  have x1 := hd.getD (by decide) (m + 1)
  have x0 := hd.getD (by decide) m
  have y2 := hu.getD (by decide) (m + 2)
  have y1 := hu.getD (by decide) (m + 1)
  have y0 := hu.getD (by decide) m
  obtain ⟨t0, t1⟩ := take_bd hd (m := m) (by omega)
  obtain ⟨s0, s1⟩ := take_bd hu (m := m) (by omega)
  have eV := val2 hdl
  have eU := val3 hul
  have hP : 0 < (18446744073709551616 : Int) ^ m := Int.pow_pos (by decide)
  rw [quotGuess.eq]
  have w0 : (d.length : Int) = ((m + 2 : Nat) : Int) := by rw [hdl]
  have w1 : Go.IntKind.i64.wrap ((d.length : Int) - 1) = ((m + 1 : Nat) : Int) := by rw [wi (by omega) (by omega)]; omega
  have w2 : Go.IntKind.i64.wrap ((d.length : Int) - 2) = (m : Int) := by rw [wi (by omega) (by omega)]; omega
  simp (implicitDefEqProofs := false) only [iteA_eq, w1, w2]
  simp (implicitDefEqProofs := false) only [w0, Int.toNat_natCast]
  rw [if_pos (by omega), if_pos (by omega), if_pos (by omega), if_pos (by omega)]
  generalize d.getD (m + 1) 0 = v1 at *
  generalize d.getD m 0 = v0 at *
  generalize u.getD (m + 2) 0 = u2 at *
  generalize u.getD (m + 1) 0 = u1 at *
  generalize u.getD m 0 = u0 at *
  generalize val (18446744073709551616 : Int) d = V at *
  generalize val (18446744073709551616 : Int) u = U at *
  generalize val (18446744073709551616 : Int) (d.take m) = t at *
  generalize val (18446744073709551616 : Int) (u.take m) = s at *
  generalize (18446744073709551616 : Int) ^ m = P at *
  by_cases hc : u2 ≥ v1
  · rw [if_pos (by simpa using hc)]
    exact ⟨18446744073709551615, by omega, by decide, rfl⟩
  · rw [if_neg (by simpa using hc), if_pos (by omega), div64_spec (by omega) y1 x1.2 k hk, if_pos (by omega)]
    have hM := Int.mul_ediv_add_emod (u2 * (18446744073709551616 : Int) + u1) v1
    have hr0 := Int.emod_nonneg (u2 * (18446744073709551616 : Int) + u1) (show v1 ≠ 0 by omega)
    have hr1 := Int.emod_lt_of_pos (u2 * (18446744073709551616 : Int) + u1) (show 0 < v1 by omega)
    have hk0 : 0 ≤ (u2 * (18446744073709551616 : Int) + u1) / v1 := Int.ediv_nonneg (by omega) (by omega)
    have hkB : (u2 * (18446744073709551616 : Int) + u1) / v1 < (18446744073709551616 : Int) := Int.ediv_lt_of_lt_mul (by omega) (by
      have : (u2 + 1) * (18446744073709551616 : Int) ≤ v1 * (18446744073709551616 : Int) := Int.mul_le_mul_of_nonneg_right (by omega) (by decide)
      rw [Int.mul_comm (18446744073709551616 : Int) v1]; omega)
    generalize (u2 * (18446744073709551616 : Int) + u1) / v1 = q0 at *
    generalize (u2 * (18446744073709551616 : Int) + u1) % v1 = r0 at *
    have hWP : 0 < (18446744073709551616 : Int) * P := Int.mul_pos (by decide) hP
    have ge1 : q ≤ q0 := guess_ge (W := (18446744073709551616 : Int) * P) (M := u2 * (18446744073709551616 : Int) + u1) (r := r0) (t := v0 * P + t) (s := u0 * P + s) (by rw [eV]; grind) (by have := Int.mul_nonneg x0.1 (Int.le_of_lt hP); omega) (by rw [eU]; grind) (by
      have : (u0 + 1) * P ≤ (18446744073709551616 : Int) * P := Int.mul_le_mul_of_nonneg_right (by omega) (Int.le_of_lt hP)
      have e : (u0 + 1) * P = u0 * P + P := by grind
      omega) hWP (by omega) (by rw [Int.mul_comm]; exact hM) hr1 hk0 hq
    -- where the guess is too great
    have less1 : ∀ g r, g * v1 + r = u2 * (18446744073709551616 : Int) + u1 → 0 ≤ g → r * (18446744073709551616 : Int) + u0 < g * v0 → q ≤ g → q ≤ g - 1 := fun g r h1 h2 h3 h4 =>
      guess_less (B := (18446744073709551616 : Int)) (P := P) (M := u2 * (18446744073709551616 : Int) + u1) (t := t) (s := s) (u0 := u0) eV t0 eU s1 hP h1 h2 h3 hq h4
    have prod : ∀ g, 0 ≤ g → g < (18446744073709551616 : Int) → (18446744073709551616 : Int) * (g * v0 / (18446744073709551616 : Int)) + g * v0 % (18446744073709551616 : Int) = g * v0 ∧ 0 ≤ g * v0 % (18446744073709551616 : Int) ∧ g * v0 % (18446744073709551616 : Int) < (18446744073709551616 : Int) ∧ 0 ≤ g * v0 / (18446744073709551616 : Int) := fun g h1 h2 =>
      ⟨Int.mul_ediv_add_emod _ _, Int.emod_nonneg _ (by decide), Int.emod_lt_of_pos _ (by decide), Int.ediv_nonneg (Int.mul_nonneg h1 x0.1) (by decide)⟩
    rw [mul64_spec ⟨hk0, hkB⟩ x0 k (by omega)]
    obtain ⟨p1, p2, p3, p4⟩ := prod q0 hk0 hkB
    -- the step back
    have dec : r0 * (18446744073709551616 : Int) + u0 < q0 * v0 → ∃ g, q ≤ g ∧ g < (18446744073709551616 : Int) ∧ (if 0 ≤ ((m + 1 : Nat) : Int) ∧ ((m + 1 : Nat) : Int) < ((m + 2 : Nat) : Int) then
        callT (C k 154 [(.v (.c (.int .u64 r0))), (.v (.c (.int .u64 v1))), (.v (.c (.int .u64 0)))]) sh154 fun (y3 : (Int × Int)) =>
          if (y3.snd == (0 : Int)) = true then
            (if (0 : Int) ≤ (m : Int) ∧ (m : Int) < ((m + 2 : Nat) : Int) then
              callT (C k 145 [(.v (.c (.int .u64 (Go.IntKind.u64.wrap (q0 - 1))))), (.v (.c (.int .u64 v0)))]) sh145 fun (y4 : (Int × Int)) =>
                if decide (y4.fst < y3.fst) = false then
                  (if (y4.fst == y3.fst) = true then
                    (if decide (y4.snd ≤ u0) = true then (rt u (Go.IntKind.u64.wrap (q0 - 1)))
                     else (if 0 ≤ ((m + 1 : Nat) : Int) ∧ ((m + 1 : Nat) : Int) < ((m + 2 : Nat) : Int) then
                      callT (C k 154 [(.v (.c (.int .u64 y3.fst))), (.v (.c (.int .u64 v1))), (.v (.c (.int .u64 0)))]) sh154 fun (y5 : (Int × Int)) =>
                        if (y5.snd == (0 : Int)) = true then none else (rt u (Go.IntKind.u64.wrap (Go.IntKind.u64.wrap (q0 - 1) - 1))) else none))
                   else (if 0 ≤ ((m + 1 : Nat) : Int) ∧ ((m + 1 : Nat) : Int) < ((m + 2 : Nat) : Int) then
                      callT (C k 154 [(.v (.c (.int .u64 y3.fst))), (.v (.c (.int .u64 v1))), (.v (.c (.int .u64 0)))]) sh154 fun (y6 : (Int × Int)) =>
                        if (y6.snd == (0 : Int)) = true then none else (rt u (Go.IntKind.u64.wrap (Go.IntKind.u64.wrap (q0 - 1) - 1))) else none))
                else (rt u (Go.IntKind.u64.wrap (q0 - 1)))
             else none)
          else (rt u (Go.IntKind.u64.wrap (q0 - 1))) else none) = some ⟨[(.v (.c (.int .u64 g)))], [⟨(.int .u64), u⟩]⟩ := by
      intro h1
      have hq1' := less1 q0 r0 (by rw [Int.mul_comm]; exact hM) hk0 h1 ge1
      have hg0 : 1 ≤ q0 := by
        by_cases h : 0 < q0
        · omega
        · have : q0 = 0 := by omega
          subst this; simp at h1; have := Int.mul_nonneg hr0 (show (0 : Int) ≤ (18446744073709551616 : Int) by decide); omega
      have e1 : Go.IntKind.u64.wrap (q0 - 1) = q0 - 1 := by rw [wu]; omega
      rw [if_pos (by omega), add64_spec ⟨hr0, by omega⟩ x1 (.inl rfl) k (by omega), e1]
      by_cases hcar : (r0 + v1 + 0) / (18446744073709551616 : Int) = 0
      · have e2 : (r0 + v1 + 0) % (18446744073709551616 : Int) = r0 + v1 := by omega
        simp (implicitDefEqProofs := false) only [hcar, e2]
        rw [if_pos (by simp), if_pos (by omega), mul64_spec (x := q0 - 1) ⟨by omega, by omega⟩ x0 k (by omega)]
        obtain ⟨o1, o2, o3, o4⟩ := prod (q0 - 1) (by omega) (by omega)
        have hM2 : (q0 - 1) * v1 + (r0 + v1) = u2 * (18446744073709551616 : Int) + u1 := by rw [← hM]; grind
        have fin : (r0 + v1) * (18446744073709551616 : Int) + u0 < (q0 - 1) * v0 → q ≤ q0 - 1 - 1 ∧ q0 - 1 - 1 < (18446744073709551616 : Int) ∧ Go.IntKind.u64.wrap (q0 - 1 - 1) = q0 - 1 - 1 := fun h => by
          have h5 := less1 (q0 - 1) (r0 + v1) hM2 (by omega) h hq1'
          exact ⟨h5, by omega, by rw [wu]; omega⟩
        have far : ¬ (r0 + v1 + v1 + 0) / (18446744073709551616 : Int) = 0 := by omega
        by_cases c1 : (q0 - 1) * v0 / (18446744073709551616 : Int) < r0 + v1
        · simp (implicitDefEqProofs := false) only []
          rw [if_neg (by simpa using c1)]
          exact ⟨q0 - 1, hq1', by omega, rfl⟩
        · simp (implicitDefEqProofs := false) only []
          rw [if_pos (by simpa using c1)]
          by_cases c2 : (q0 - 1) * v0 / (18446744073709551616 : Int) = r0 + v1
          · rw [if_pos (by simpa using c2)]
            by_cases c3 : (q0 - 1) * v0 % (18446744073709551616 : Int) ≤ u0
            · rw [if_pos (by simpa using c3)]
              exact ⟨q0 - 1, hq1', by omega, rfl⟩
            · obtain ⟨f1, f2, f3⟩ := fin (by rw [← o1, c2]; grind)
              rw [if_neg (by simpa using c3), if_pos (by omega), add64_spec ⟨by omega, by omega⟩ x1 (.inl rfl) k (by omega), if_neg (by simpa using far), f3]
              exact ⟨_, f1, f2, rfl⟩
          · obtain ⟨f1, f2, f3⟩ := fin (by
              rw [← o1]
              have : (r0 + v1 + 1) * (18446744073709551616 : Int) ≤ (q0 - 1) * v0 / (18446744073709551616 : Int) * (18446744073709551616 : Int) := Int.mul_le_mul_of_nonneg_right (by omega) (by decide)
              omega)
            rw [if_neg (by simpa using c2), if_pos (by omega), add64_spec ⟨by omega, by omega⟩ x1 (.inl rfl) k (by omega), if_neg (by simpa using far), f3]
            exact ⟨_, f1, f2, rfl⟩
      · simp (implicitDefEqProofs := false) only []
        rw [if_neg (by simpa using hcar)]
        exact ⟨q0 - 1, hq1', by omega, rfl⟩
    by_cases c1 : q0 * v0 / (18446744073709551616 : Int) < r0
    · simp (implicitDefEqProofs := false) only []
      rw [if_neg (by simpa using c1)]
      exact ⟨q0, ge1, hkB, rfl⟩
    · simp (implicitDefEqProofs := false) only []
      rw [if_pos (by simpa using c1)]
      by_cases c2 : q0 * v0 / (18446744073709551616 : Int) = r0
      · rw [if_pos (by simpa using c2)]
        by_cases c3 : q0 * v0 % (18446744073709551616 : Int) ≤ u0
        · rw [if_pos (by simpa using c3)]
          exact ⟨q0, ge1, hkB, rfl⟩
        · rw [if_neg (by simpa using c3)]
          exact dec (by rw [← p1, c2]; grind)
      · rw [if_neg (by simpa using c2)]
        exact dec (by
          rw [← p1]
          have : (r0 + 1) * (18446744073709551616 : Int) ≤ q0 * v0 / (18446744073709551616 : Int) * (18446744073709551616 : Int) := Int.mul_le_mul_of_nonneg_right (by omega) (by decide)
          omega)
end TryzE
end
section
set_option linter.unusedSimpArgs false
set_option linter.unusedVariables false
namespace TryzE
open Go.Eng Go.Proofs Num KD
set_option linter.unusedVariables false
/-! ## quot.Shr, by less than a limb -/
theorem shr_loop {c : List Int} (hc : Dg (18446744073709551616 : Int) c) (hN : c.length < 100000000) {s : Nat} (hs : s < 64) : ∀ (r i : Nat) (l : List Int), i + r = c.length → l.length = c.length → Dg (18446744073709551616 : Int) l → (∀ x, i ≤ x → l.getD x 0 = c.getD x 0) →
    2 ^ s * val (18446744073709551616 : Int) (l.take i) = val (18446744073709551616 : Int) (c.take i) - c.getD 0 0 % 2 ^ s + (18446744073709551616 : Int) ^ i * (c.getD i 0 % 2 ^ s) → ∀ k n, r + 1 ≤ n →
    ∃ (l' : List Int), l'.length = c.length ∧ Dg (18446744073709551616 : Int) l' ∧ 2 ^ s * val (18446744073709551616 : Int) l' = val (18446744073709551616 : Int) c - c.getD 0 0 % 2 ^ s ∧
      quotShr.l0 k n 0 c.length (s : Int) (c.length : Int) (i : Int) l = callT (C k 61 [(.v (.c (.sl (.int .u64) l')))]) sh61 fun (y3 : List Int) => some ⟨[(.v (.agg [(.sl (.int .u64) y3)])), (.v (.c (.int .i64 0)))], []⟩ := by
  intro r
  induction r with
  | zero =>
    intro i l hi ho hd hx hv k n hn
    obtain ⟨n, rfl, hn'⟩ := succOf hn
    have : i = c.length := by omega
    subst this
    refine ⟨l, ho, hd, ?_, ?_⟩
    · rw [List.take_of_length_le (by omega), List.take_of_length_le (Nat.le_refl _), getD_zero_of (Nat.le_refl _)] at hv
      rw [hv]; simp
    · rw [quotShr.l0_succ]
      simp (implicitDefEqProofs := false) only [iteA_eq]
      rw [if_neg (by simp), List.drop_zero, List.take_of_length_le (by omega)]
  | succ r ih =>
    intro i l hi ho hd hx hv k n hn
    obtain ⟨n, rfl, hn'⟩ := succOf hn
    have xi := hc.getD (by decide) i
    have xj := hc.getD (by decide) (i + 1)
    have hlt : i < l.length := by omega
    have p1 := two_pos s
    have p2 := two_pos (64 - s)
    have hb := split64 s (by omega)
    have hli : l.getD i 0 = c.getD i 0 := hx i (Nat.le_refl _)
    have hlj : l.getD (i + 1) 0 = c.getD (i + 1) 0 := hx (i + 1) (by omega)
    have m0 := Int.emod_nonneg (c.getD (i + 1) 0) (show (2 : Int) ^ s ≠ 0 by omega)
    have m1 := Int.emod_lt_of_pos (c.getD (i + 1) 0) p1
    have n0 := Int.emod_nonneg (c.getD i 0) (show (2 : Int) ^ s ≠ 0 by omega)
    have n1 := Int.emod_lt_of_pos (c.getD i 0) p1
    have q0 : 0 ≤ c.getD i 0 / 2 ^ s := Int.ediv_nonneg xi.1 (by omega)
    have q1 : c.getD i 0 / 2 ^ s < 2 ^ (64 - s) := Int.ediv_lt_of_lt_mul p1 (by rw [Int.mul_comm, hb]; exact xi.2)
    have hdiv := Int.mul_ediv_add_emod (c.getD i 0) (2 ^ s)
    have hsum : 0 ≤ (c.getD (i + 1) 0 % 2 ^ s) * 2 ^ (64 - s) ∧ (c.getD (i + 1) 0 % 2 ^ s) * 2 ^ (64 - s) + 2 ^ (64 - s) ≤ (18446744073709551616 : Int) := by
      refine ⟨Int.mul_nonneg m0 (by omega), ?_⟩
      have : (c.getD (i + 1) 0 % 2 ^ s + 1) * 2 ^ (64 - s) ≤ 2 ^ s * 2 ^ (64 - s) := Int.mul_le_mul_of_nonneg_right (by omega) (by omega)
      rw [hb, Int.add_mul] at this
      omega
    -- what is laid
    have key : ∀ y : Int, y = c.getD i 0 / 2 ^ s + (c.getD (i + 1) 0 % 2 ^ s) * 2 ^ (64 - s) →
        ∃ (l' : List Int), l'.length = c.length ∧ Dg (18446744073709551616 : Int) l' ∧ 2 ^ s * val (18446744073709551616 : Int) l' = val (18446744073709551616 : Int) c - c.getD 0 0 % 2 ^ s ∧
          quotShr.l0 k n 0 c.length (s : Int) (c.length : Int) ((i + 1 : Nat) : Int) (l.set i y) = callT (C k 61 [(.v (.c (.sl (.int .u64) l')))]) sh61 fun (y3 : List Int) => some ⟨[(.v (.agg [(.sl (.int .u64) y3)])), (.v (.c (.int .i64 0)))], []⟩ := by
      intro y hy
      refine ih (i + 1) (l.set i y) (by omega) (by simpa using ho) (hd.set i (by omega) (by omega)) (fun x hxx => by rw [getD_set_ne (by omega)]; exact hx x (by omega)) ?_ k n hn'
      rw [val_take_succ, val_take_succ, take_set_self, getD_set_self hlt, Int.mul_add, hv, hy, Int.pow_succ]
      have e1 : 2 ^ s * ((18446744073709551616 : Int) ^ i * (c.getD i 0 / 2 ^ s + (c.getD (i + 1) 0 % 2 ^ s) * 2 ^ (64 - s))) = (18446744073709551616 : Int) ^ i * (2 ^ s * (c.getD i 0 / 2 ^ s)) + (18446744073709551616 : Int) ^ i * ((2 ^ s * 2 ^ (64 - s)) * (c.getD (i + 1) 0 % 2 ^ s)) := by grind
      rw [e1, hb]
      have e2 : (18446744073709551616 : Int) ^ i * (2 ^ s * (c.getD i 0 / 2 ^ s)) = (18446744073709551616 : Int) ^ i * c.getD i 0 - (18446744073709551616 : Int) ^ i * (c.getD i 0 % 2 ^ s) := by rw [← Int.mul_sub]; congr 1; omega
      rw [e2, Int.mul_assoc]
      omega
    have w : Go.IntKind.i64.wrap ((i : Int) + 1) = ((i + 1 : Nat) : Int) := by rw [wi (by omega) (by omega)]; rfl
    have w64 : Go.IntKind.u64.wrap ((64 : Int) - (s : Int)) = ((64 - s : Nat) : Int) := by rw [wu]; omega
    have hsr : shrI .u64 (c.getD i 0) (s : Int) = c.getD i 0 / 2 ^ s := shr_eq s (by omega)
    rw [quotShr.l0_succ]
    simp (implicitDefEqProofs := false) only [iteA_eq, w, w64, Int.toNat_natCast, Nat.zero_add, hli, hsr, List.length_take, List.length_drop, List.length_set]
    rw [if_pos (by simp; omega), if_pos (by omega), if_neg (by omega), if_pos (by omega)]
    by_cases hlast : i + 1 < c.length
    · have hg1 : (l.set i (c.getD i 0 / 2 ^ s)).getD (i + 1) 0 = c.getD (i + 1) 0 := by rw [getD_set_ne (by omega)]; exact hlj
      have hor : orI .u64 (c.getD i 0 / 2 ^ s) (shlI .u64 (c.getD (i + 1) 0) ((64 - s : Nat) : Int)) = c.getD i 0 / 2 ^ s + (c.getD (i + 1) 0 % 2 ^ s) * 2 ^ (64 - s) := by
        rw [shl_eq (64 - s) (by omega), shl_mul (64 - s) (by omega), show 64 - (64 - s) = s by omega, orI_comm, or_add (64 - s) ⟨m0, by omega⟩ ⟨q0, q1⟩ (by omega), Int.add_comm]
      rw [if_pos (by rw [decide_eq_true_eq]; omega), if_pos (by omega), if_pos (by omega), if_neg (by omega), if_pos (by omega), getD_set_self hlt, hg1, hor, List.set_set]
      exact key _ rfl
    · have hz : c.getD (i + 1) 0 = 0 := getD_zero_of (by omega)
      rw [if_neg (by rw [decide_eq_true_eq]; omega)]
      exact key _ (by rw [hz]; simp)
theorem wrong_spec {n : Int} (h0 : 0 ≤ n) (h1 : n ≤ 262144) : ∀ k, 1 ≤ k → ∀ F : Bool → Option Res, callT (C k 189 [(.v (.c (.int .i64 n)))]) sh189 F = F false := by
  intro k hk F
  obtain ⟨k, rfl, -⟩ := succOf hk
  rw [quotWrong.eq, iteA_eq, if_pos (by simpa using h0), show decide (n > 262144) = false by simpa using h1]
  rfl
theorem shr_spec (x s : Nat) (hs : s < 64) (hN : (L x).length < 10000000) : ∀ k, (L x).length + 10 ≤ k → ∀ F : List Int × Int → Option Res, callT (C k 179 [(.v (.agg [(.sl (.int .u64) (L x))])), (.v (.c (.int .i64 (s : Int))))]) sh179 F = F (L (x / 2 ^ s), 0) := by
  intro k hk F
  obtain ⟨k, rfl, hk'⟩ := succOf (n := (L x).length + 9) hk
  have hd := L_dg x
  obtain ⟨l', r1, r2, r3, r4⟩ := shr_loop hd (by omega) hs (L x).length 0 (L x) (by omega) rfl hd (fun _ _ => rfl) (by rw [List.take_zero]; simp only [val, Int.mul_zero, Int.pow_zero]; generalize (L x).getD 0 0 % 2 ^ s = q; omega) k k (by omega)
  have p1 := two_pos s
  have hv : val (18446744073709551616 : Int) l' = ((x / 2 ^ s : Nat) : Int) := by
    rw [L_val] at r3
    have m0 := Int.emod_nonneg ((L x).getD 0 0) (show (2 : Int) ^ s ≠ 0 by omega)
    have m1 := Int.emod_lt_of_pos ((L x).getD 0 0) p1
    have e : (x : Int) = 2 ^ s * val (18446744073709551616 : Int) l' + (L x).getD 0 0 % 2 ^ s := by omega
    have e2 : ((x / 2 ^ s : Nat) : Int) = (x : Int) / 2 ^ s := by rw [Int.natCast_ediv, Int.natCast_pow]; rfl
    rw [e2, e, Int.add_comm, Int.add_mul_ediv_left _ _ (by omega), Int.ediv_eq_zero_of_lt m0 m1]
    omega
  have hof := of_spec l' (x / 2 ^ s) r2 hv (by omega) k (by omega)
  have t1 : Go.IntKind.i64.wrap (((s : Int)).tdiv 64) = 0 := by
    rw [Int.tdiv_eq_ediv_of_nonneg (by omega), show (s : Int) / 64 = 0 by omega]; rfl
  have t2 : Go.IntKind.u64.wrap (((s : Int)).tmod 64) = (s : Int) := by
    rw [Int.tmod_eq_emod_of_nonneg (by omega), wu]; omega
  have t3 : minI 0 ((L x).length : Int) = 0 := by unfold minI; split <;> omega
  rw [quotShr.eq, wrong_spec (by omega) (by omega) k (by omega)]
  simp (implicitDefEqProofs := false) only [iteA_eq]
  rw [if_neg (by simp), limbs_spec _ (by omega) k (by omega)]
  simp (implicitDefEqProofs := false) only [t1, t2, t3]
  rw [if_pos (by omega)]
  have e3 : ((0 : Nat) + (0 : Int).toNat) = 0 := rfl
  have e4 : (L x).length - (0 : Int).toNat = (L x).length := rfl
  rw [e3, e4, List.drop_zero, List.take_of_length_le (Nat.le_refl _), show quotShr.l0 k k 0 (L x).length (s : Int) ((L x).length : Int) 0 (L x) = _ from r4, hof]
  rfl
end TryzE
end
section
set_option linter.unusedSimpArgs false
set_option linter.unusedVariables false
namespace TryzE
open Go.Eng Go.Proofs Num KD
set_option linter.unusedVariables false
/-! ## A piece of a row, laid anew -/
def sp (i n : Nat) (p u : List Int) : List Int := u.take i ++ p ++ u.drop (i + n)
theorem sp_len {i n : Nat} {p u : List Int} (h : i + n ≤ u.length) (hp : p.length = n) : (sp i n p u).length = u.length := by
  simp [sp, hp]; omega
theorem sp_dg {i n : Nat} {p u : List Int} (hp : Dg (18446744073709551616 : Int) p) (hu : Dg (18446744073709551616 : Int) u) : Dg (18446744073709551616 : Int) (sp i n p u) := ((hu.take i).append hp).append (hu.drop _)
theorem sp_piece {i n : Nat} {p u : List Int} (h : i + n ≤ u.length) (hp : p.length = n) : ((sp i n p u).drop i).take n = p := by
  unfold sp
  rw [List.append_assoc, List.drop_append_of_le_length (by simp; omega), List.drop_of_length_le (by simp; omega), List.nil_append, List.take_append_of_le_length (by omega), List.take_of_length_le (by omega)]
theorem sp_sp {i n : Nat} {p p' u : List Int} (h : i + n ≤ u.length) (hp : p.length = n) : sp i n p' (sp i n p u) = sp i n p' u := by
  unfold sp
  congr 1
  · congr 1
    rw [List.append_assoc, List.take_append_of_le_length (by simp; omega), List.take_take, Nat.min_self]
  · rw [List.drop_append_of_le_length (by simp [hp]; omega), List.drop_of_length_le (by simp [hp]; omega), List.nil_append]
theorem sp_self {i n : Nat} {u : List Int} : sp i n ((u.drop i).take n) u = u := by
  unfold sp
  rw [List.append_assoc, ← List.drop_drop, List.take_append_drop, List.take_append_drop]
theorem sp_get {i n j : Nat} {p u : List Int} (h : i + n ≤ u.length) (hp : p.length = n) (hj : j < n) : (sp i n p u).getD (i + j) 0 = p.getD j 0 := by
  unfold sp
  have hl : (u.take i).length = i := by simp; omega
  simp only [List.getD_eq_getElem?_getD]
  rw [List.append_assoc, List.getElem?_append_right (by omega), hl, Nat.add_sub_cancel_left, List.getElem?_append_left (by omega)]
theorem sp_val {i n : Nat} {p u : List Int} (h : i + n ≤ u.length) (hp : p.length = n) : val (18446744073709551616 : Int) (sp i n p u) = val (18446744073709551616 : Int) u + (18446744073709551616 : Int) ^ i * (val (18446744073709551616 : Int) p - val (18446744073709551616 : Int) ((u.drop i).take n)) := by
  have e1 : val (18446744073709551616 : Int) u = val (18446744073709551616 : Int) (u.take i) + (18446744073709551616 : Int) ^ i * (val (18446744073709551616 : Int) ((u.drop i).take n) + (18446744073709551616 : Int) ^ n * val (18446744073709551616 : Int) (u.drop (i + n))) := by
    rw [val_take_drop (B := (18446744073709551616 : Int)) u i (by omega), val_take_drop (B := (18446744073709551616 : Int)) (u.drop i) n (by simp; omega), List.drop_drop]
  unfold sp
  rw [val_append, val_append, e1]
  simp only [List.length_append, List.length_take, hp, Nat.min_eq_left (show i ≤ u.length by omega), Int.pow_add]
  grind
/-! ## Adding back, until it is right -/
theorem long_back {d : List Int} (hd : Dg (18446744073709551616 : Int) d) {n0 : Nat} (hdn : d.length = n0) (hn1 : n0 < 1000000) {V Q r U : Int} (hV : val (18446744073709551616 : Int) d = V) (hV0 : 0 < V) (hU : U = Q * V + r) (hr : 0 ≤ r ∧ r < V) (hQ : 0 ≤ Q) {i : Nat} {u q : List Int} (hul : i + (n0 + 1) ≤ u.length) (hu : Dg (18446744073709551616 : Int) u) (hql : i < q.length) (hiN : i < 100000000) (sh : Int) :
    ∀ (e : Nat) (p : List Int) (k' w : Int), p.length = n0 + 1 → Dg (18446744073709551616 : Int) p → (w ≠ 0 ∧ k' = Q + e ∧ 0 < e ∧ k' < (18446744073709551616 : Int) ∧ val (18446744073709551616 : Int) p = U - k' * V + (18446744073709551616 : Int) ^ (n0 + 1) ∨ w = 0 ∧ e = 0 ∧ k' = Q ∧ val (18446744073709551616 : Int) p = r) → ∀ k n m, n0 + 6 ≤ k → e + 2 ≤ n →
    ∃ p', p'.length = n0 + 1 ∧ Dg (18446744073709551616 : Int) p' ∧ val (18446744073709551616 : Int) p' = r ∧ quotLong.l1 k n m d sh (i : Int) i (n0 + 1) k' w (sp i (n0 + 1) p u) q = quotLong.l0 k m d sh ((i : Int) - 1) (sp i (n0 + 1) p' u) (q.set i Q) := by
  intro e
  induction e with
  | zero =>
    intro p k' w hp hpd hw k n m hk hn
    obtain ⟨n, rfl, hn'⟩ := succOf (k := n) (n := 1) (by omega)
    rcases hw with ⟨_, _, h0, _⟩ | ⟨rfl, _, rfl, hv⟩
    · omega
    · refine ⟨p, hp, hpd, hv, ?_⟩
      rw [quotLong.l1_succ]
      simp (implicitDefEqProofs := false) only [iteA_eq]
      rw [if_neg (by simp), if_pos (by omega), wi (by omega) (by omega), Int.toNat_natCast]
  | succ e ih =>
    intro p k' w hp hpd hw k n m hk hn
    obtain ⟨n, rfl, hn'⟩ := succOf (k := n) (n := e + 2) (by omega)
    rcases hw with ⟨hw, rfl, _, hkB, hv⟩ | ⟨_, h0, _⟩
    · obtain ⟨p', b', s1, s2, s3, s4⟩ := back_spec hpd hd (by omega) (by omega) k (by omega)
      rw [hdn] at s1 s3
      have hVB : V < (18446744073709551616 : Int) ^ n0 := by rw [← hV, ← hdn]; exact val_lt (by decide) hd
      have b0 := val_nonneg (B := (18446744073709551616 : Int)) (by decide) s2
      have b1 := val_lt (B := (18446744073709551616 : Int)) (by decide) s2
      rw [s1] at b1
      obtain ⟨g1, g2⟩ := back_round (B := (18446744073709551616 : Int)) (by decide) (n := n0) ⟨hV0, hVB⟩ hU hr hQ ⟨by omega, hkB⟩ hv (by rw [s3, hV]) ⟨b0, b1⟩
      have ht := top_digit (B := (18446744073709551616 : Int)) (by decide) s2 s1
      have hg := sp_get (u := u) (p := p') hul s1 (j := n0) (by omega)
      have wk : Go.IntKind.u64.wrap (Q + ((e + 1 : Nat) : Int) - 1) = Q + (e : Int) := by rw [wu]; omega
      rw [quotLong.l1_succ]
      simp (implicitDefEqProofs := false) only [iteA_eq, hdn, Int.toNat_natCast]
      rw [if_pos (by simpa using hw), if_pos (by omega), sp_piece hul hp, s4, if_pos (by omega)]
      have e1 : (List.take i (sp i (n0 + 1) p u) ++ p' ++ List.drop (i + (n0 + 1)) (sp i (n0 + 1) p u)) = sp i (n0 + 1) p' (sp i (n0 + 1) p u) := rfl
      simp (implicitDefEqProofs := false) only [e1, sp_sp hul hp, hg, ht, wk]
      by_cases he : e = 0
      · subst he
        obtain ⟨h1, h2⟩ := g1 (by omega)
        rw [h2, if_pos (by simp)]
        exact ih p' (Q + ((0 : Nat) : Int)) 0 s1 s2 (.inr ⟨rfl, rfl, by omega, h1⟩) k n m hk (by omega)
      · obtain ⟨h1, h2⟩ := g2 (by omega)
        rw [if_neg (by simpa using h2)]
        refine ih p' (Q + (e : Int)) w s1 s2 (.inl ⟨hw, rfl, by omega, by omega, ?_⟩) k n m hk (by omega)
        rw [h1]
        congr 3
        omega
    · omega
end TryzE
end
section
set_option linter.unusedSimpArgs false
set_option linter.unusedVariables false
namespace TryzE
open Go.Eng Go.Proofs Num KD
set_option linter.unusedVariables false
/-- What is left when all digits are found. -/
noncomputable def longTail (k : Nat) (sh : Int) (u q : List Int) : Option Res :=
  callT (C k 61 [(.v (.c (.sl (.int .u64) u)))]) sh61 fun (y6 : (List Int)) => (callT (C k 179 [(.v (.agg [(.sl (.int .u64) y6)])), (.v (.c (.int .i64 (Go.IntKind.i64.wrap sh))))]) sh179 fun (y7 : ((List Int) × Int)) => (callT (C k 128 [(.v (.agg [(.sl (.int .u64) y7.fst)]))]) sh128 fun (y8 : (List Int)) => (some ⟨[(.fresh (.int .u64) q), (.fresh (.int .u64) y8)], []⟩)))
theorem long_loop {d : List Int} (hd : Dg (18446744073709551616 : Int) d) {m : Nat} (hdl : d.length = m + 2) (hm : m < 999990) (hnd : 9223372036854775808 ≤ d.getD (m + 1) 0) {V U0 : Int} (hV : val (18446744073709551616 : Int) d = V) {Lq : Nat} (hLq : Lq < 10000000) (sh : Int) :
    ∀ (j : Nat) (u q : List Int), j ≤ Lq → q.length = Lq → u.length = Lq + (m + 2) → Dg (18446744073709551616 : Int) u → Dg (18446744073709551616 : Int) q → (∀ x, x < j → q.getD x 0 = 0) → val (18446744073709551616 : Int) u + V * val (18446744073709551616 : Int) q = U0 → val (18446744073709551616 : Int) u < (18446744073709551616 : Int) ^ j * V → ∀ k n, 18446744073709551616 + m + 100 ≤ k → j + 1 ≤ n →
    ∃ (u' q' : List Int), u'.length = Lq + (m + 2) ∧ q'.length = Lq ∧ Dg (18446744073709551616 : Int) u' ∧ Dg (18446744073709551616 : Int) q' ∧ val (18446744073709551616 : Int) u' < V ∧ val (18446744073709551616 : Int) u' + V * val (18446744073709551616 : Int) q' = U0 ∧ quotLong.l0 k n d sh ((j : Int) - 1) u q = longTail k sh u' q' := by
  have x1 := hd.getD (by decide) (m + 1)
  have hV1 : 0 < V := by
    rw [← hV, val2 hdl]
    have t := take_bd hd (m := m) (by omega)
    have x0 := hd.getD (by decide) m
    have := Int.mul_pos (show 0 < d.getD (m + 1) 0 * (18446744073709551616 : Int) + d.getD m 0 by omega) (show 0 < (18446744073709551616 : Int) ^ m from Int.pow_pos (by decide))
    omega
  have hVB : V < (18446744073709551616 : Int) ^ (m + 2) := by rw [← hV, ← hdl]; exact val_lt (by decide) hd
  intro j
  induction j with
  | zero =>
    intro u q hj hq hu hud hqd hz hU hlt k n hk hn
    obtain ⟨n, rfl, hn'⟩ := succOf hn
    refine ⟨u, q, hu, hq, hud, hqd, by simpa using hlt, hU, ?_⟩
    rw [quotLong.l0_succ]
    simp (implicitDefEqProofs := false) only [iteA_eq]
    rw [if_neg (by simp)]
    rfl
  | succ j ih =>
    intro u q hj hq hu hud hqd hz hU hlt k n hk hn
    obtain ⟨n, rfl, hn'⟩ := succOf hn
    have hle : j + (m + 3) ≤ u.length := by omega
    have hBj : 0 < (18446744073709551616 : Int) ^ j := Int.pow_pos (by decide)
    -- the part
    have hpl : ((u.drop j).take (m + 3)).length = m + 3 := by simp; omega
    have hpd : Dg (18446744073709551616 : Int) ((u.drop j).take (m + 3)) := (hud.drop j).take _
    have eD := KD.val_drop (B := (18446744073709551616 : Int)) (by decide) hud (i := j) (by omega)
    have hD : val (18446744073709551616 : Int) (u.drop j) < (18446744073709551616 : Int) * V := by
      rw [eD]
      refine Int.ediv_lt_of_lt_mul hBj ?_
      rw [Int.pow_succ] at hlt
      have : (18446744073709551616 : Int) * V * (18446744073709551616 : Int) ^ j = (18446744073709551616 : Int) ^ j * (18446744073709551616 : Int) * V := by grind
      omega
    have eP : val (18446744073709551616 : Int) ((u.drop j).take (m + 3)) = val (18446744073709551616 : Int) (u.drop j) := by
      have e := val_take_drop (B := (18446744073709551616 : Int)) (u.drop j) (m + 3) (by simp; omega)
      have h1 := val_nonneg (B := (18446744073709551616 : Int)) (by decide) hpd
      have h2 := val_nonneg (B := (18446744073709551616 : Int)) (by decide) ((hud.drop j).drop (m + 3))
      by_cases h0 : val (18446744073709551616 : Int) ((u.drop j).drop (m + 3)) = 0
      · rw [e, h0]; simp
      · exfalso
        have h3 : (18446744073709551616 : Int) ^ (m + 3) * 1 ≤ (18446744073709551616 : Int) ^ (m + 3) * val (18446744073709551616 : Int) ((u.drop j).drop (m + 3)) := Int.mul_le_mul_of_nonneg_left (by omega) (Int.le_of_lt (Int.pow_pos (by decide)))
        have h4 : (18446744073709551616 : Int) ^ (m + 3) = (18446744073709551616 : Int) ^ (m + 2) * (18446744073709551616 : Int) := Int.pow_succ ..
        have h5 : (18446744073709551616 : Int) * V < (18446744073709551616 : Int) * (18446744073709551616 : Int) ^ (m + 2) := Int.mul_lt_mul_of_pos_left hVB (by decide)
        have h6 : (18446744073709551616 : Int) * (18446744073709551616 : Int) ^ (m + 2) = (18446744073709551616 : Int) ^ (m + 2) * (18446744073709551616 : Int) := Int.mul_comm ..
        omega
    generalize hP : (u.drop j).take (m + 3) = part at *
    have hpv : val (18446744073709551616 : Int) part < (18446744073709551616 : Int) * V := by rw [eP]; exact hD
    have hp0 := val_nonneg (B := (18446744073709551616 : Int)) (by decide) hpd
    have hdm := Int.mul_ediv_add_emod (val (18446744073709551616 : Int) part) V
    have hr0 := Int.emod_nonneg (val (18446744073709551616 : Int) part) (show V ≠ 0 by omega)
    have hr1 := Int.emod_lt_of_pos (val (18446744073709551616 : Int) part) hV1
    have hQ0 : 0 ≤ val (18446744073709551616 : Int) part / V := Int.ediv_nonneg hp0 (by omega)
    have hQB : val (18446744073709551616 : Int) part / V < (18446744073709551616 : Int) := Int.ediv_lt_of_lt_mul hV1 hpv
    generalize hQ : val (18446744073709551616 : Int) part / V = Q at *
    generalize hR : val (18446744073709551616 : Int) part % V = R at *
    have hUp : val (18446744073709551616 : Int) part = Q * V + R := by rw [← hdm]; grind
    obtain ⟨g, gq, gB, hg⟩ := guess_eq hpd hd hdl (by omega) (by omega) hnd (by rw [hV]; exact hpv) (q := Q) (by rw [hV]; omega) hQB hQ0 (k - 1) (by omega)
    rw [show k - 1 + 1 = k by omega] at hg
    obtain ⟨p', b', l1, l2, l3, l4, l5⟩ := less_spec hpd hd (q := g) ⟨by omega, gB⟩ (by omega) (by omega) k (by omega)
    rw [hdl, hV] at l4
    rw [hdl] at l1
    have c0 := val_nonneg (B := (18446744073709551616 : Int)) (by decide) l2
    have c1 := val_lt (B := (18446744073709551616 : Int)) (by decide) l2
    rw [l1] at c1
    obtain ⟨f1, f2⟩ := less_first (B := (18446744073709551616 : Int)) (by decide) (n := m + 2) ⟨hV1, hVB⟩ hUp ⟨hr0, hr1⟩ hQ0 ⟨gq, gB⟩ l3 l4 ⟨c0, c1⟩
    have hback : ∀ n', 18446744073709551616 + m + 100 ≤ n' → ∃ p'', p''.length = m + 2 + 1 ∧ Dg (18446744073709551616 : Int) p'' ∧ val (18446744073709551616 : Int) p'' = R ∧ quotLong.l1 k n' n d sh (j : Int) j (m + 2 + 1) g b' (sp j (m + 2 + 1) p' u) q = quotLong.l0 k n d sh ((j : Int) - 1) (sp j (m + 2 + 1) p'' u) (q.set j Q) := by
      intro n' hn''
      obtain ⟨e, he⟩ : ∃ e : Nat, g = Q + e := ⟨(g - Q).toNat, by omega⟩
      refine long_back hd hdl (by omega) hV hV1 hUp ⟨hr0, hr1⟩ hQ0 (by omega) hud (by omega) (by omega) sh e p' g b' l1 l2 ?_ k n' n (by omega) (by omega)
      by_cases h : e = 0
      · obtain ⟨h1, h2⟩ := f1 (by omega)
        exact .inr ⟨h1, h, by omega, h2⟩
      · obtain ⟨h1, h2⟩ := f2 (by omega)
        exact .inl ⟨by omega, he, by omega, gB, h2⟩
    obtain ⟨p'', r1, r2, r3, r4⟩ := hback k (by omega)
    have hval : val (18446744073709551616 : Int) (sp j (m + 3) p'' u) = val (18446744073709551616 : Int) u + (18446744073709551616 : Int) ^ j * (R - val (18446744073709551616 : Int) part) := by rw [sp_val hle r1, r3, hP]
    have hql : j < q.length := by omega
    obtain ⟨u', q', s1, s2, s3, s4, s5, s6, s7⟩ := ih (sp j (m + 3) p'' u) (q.set j Q) (by omega) (by simpa using hq) (by rw [sp_len hle r1]; exact hu) (sp_dg r2 hud) (hqd.set j hQ0 hQB)
      (fun x hx => by rw [getD_set_ne (by omega)]; exact hz x (by omega))
      (by rw [hval, val_set _ _ _ hql, hz j (by omega), ← hU, hUp]; grind)
      (by
        rw [hval]
        have e1 := val_take_drop (B := (18446744073709551616 : Int)) u j (by omega)
        have t := take_bd hud (m := j) (by omega)
        have e2 : (18446744073709551616 : Int) ^ j * (R + 1) ≤ (18446744073709551616 : Int) ^ j * V := Int.mul_le_mul_of_nonneg_left (by omega) (by omega)
        rw [Int.mul_add] at e2
        rw [e1, ← eP, Int.mul_sub]
        omega) k n hk hn'
    refine ⟨u', q', s1, s2, s3, s4, s5, s6, ?_⟩
    rw [← s7, ← r4]
    have wj : ((j + 1 : Nat) : Int) - 1 = (j : Int) := by omega
    have wA : Go.IntKind.i64.wrap (Go.IntKind.i64.wrap ((j : Int) + (d.length : Int)) + 1) = ((j + (m + 3) : Nat) : Int) := by rw [wi (x := (j : Int) + (d.length : Int)) (by omega) (by omega), wi (by omega) (by omega)]; omega
    have e1 : List.take j u ++ part ++ List.drop (j + (m + 3)) u = u := by rw [← hP]; exact sp_self
    rw [quotLong.l0_succ]
    simp (implicitDefEqProofs := false) only [iteA_eq, wj, wA, Int.toNat_natCast, Nat.zero_add, Nat.add_sub_cancel_left, hP]
    rw [if_pos (by simp), if_pos (by omega), if_pos (by omega), hg]
    show (if 0 < m + 3 then _ else none) = _
    rw [if_pos (by omega)]
    show (callT (C k 177 [(.lent ⟨(.int .u64), (List.take (m + 3) (List.drop j (List.take j u ++ part ++ List.drop (j + (m + 3)) u)))⟩), (.v (.c (.sl (.int .u64) d))), (.v (.c (.int .u64 g)))]) sh177 _) = _
    rw [e1, hP, l5]
    rfl
end TryzE
end
section
set_option linter.unusedSimpArgs false
set_option linter.unusedVariables false
namespace TryzE
open Go.Eng Go.Proofs Num KD
set_option linter.unusedVariables false
theorem longTail_eq {s r : Nat} (hs : s < 64) {u q : List Int} (hu : Dg (18446744073709551616 : Int) u) (hv : val (18446744073709551616 : Int) u = ((2 ^ s * r : Nat) : Int)) (hl : u.length < 10000000) (k : Nat) (hk : u.length + 20 ≤ k) : longTail k (s : Int) u q = some ⟨[(.fresh (.int .u64) q), (.fresh (.int .u64) (L r))], []⟩ := by
  have h1 : (L (2 ^ s * r)).length ≤ u.length := by
    refine L_len ?_
    have := val_lt (B := (18446744073709551616 : Int)) (by decide) hu
    rw [hv] at this
    have e : ((18446744073709551616 : Int) ^ u.length) = ((18446744073709551616 ^ u.length : Nat) : Int) := by rw [Int.natCast_pow]; rfl
    rw [e] at this
    exact Int.ofNat_lt.1 this
  have e2 : 2 ^ s * r / 2 ^ s = r := Nat.mul_div_cancel_left r (Nat.two_pow_pos s)
  have h2 : (L r).length ≤ (L (2 ^ s * r)).length := L_mono (Nat.le_mul_of_pos_left r (Nat.two_pow_pos s))
  unfold longTail
  rw [of_spec u (2 ^ s * r) hu hv (by omega) k (by omega), wi (by omega) (by omega), shr_spec _ s hs (by omega) k (by omega), e2, limbs_spec _ (by show ((L r).length : Int) < _; omega) k (by omega)]
theorem long_spec (a d : Nat) (hd2 : 2 ≤ (L d).length) (had : d ≤ a) (ha : (L a).length < 900000) : ∃ K, ∀ k, K ≤ k → ∃ q : List Int, Dg (18446744073709551616 : Int) q ∧ q.length ≤ (L a).length ∧ val (18446744073709551616 : Int) q = ((a / d : Nat) : Int) ∧
    ∀ F : List Int × List Int → Option Res, callT (C k 161 [(.v (.c (.sl (.int .u64) (L a)))), (.v (.c (.sl (.int .u64) (L d))))]) sh161 F = F (q, L (a % d)) := by
  obtain ⟨m, hm⟩ : ∃ m, (L d).length = m + 2 := ⟨(L d).length - 2, by omega⟩
  have hlen : (L d).length ≤ (L a).length := L_mono had
  have hd0 : 0 < d := by
    rcases Nat.eq_zero_or_pos d with h | h
    · subst h; rw [L_zero] at hm; simp at hm
    · exact h
  have hDd := L_dg d
  have hDa := L_dg a
  -- the highest limb
  have hy := hDd.getD (by decide) (m + 1)
  have etop : (d : Int) = val (18446744073709551616 : Int) ((L d).take (m + 1)) + (18446744073709551616 : Int) ^ (m + 1) * (L d).getD (m + 1) 0 := by
    have e := val_take_drop (B := (18446744073709551616 : Int)) (L d) (m + 1) (by omega)
    have e2 := TryzE.val_drop (B := (18446744073709551616 : Int)) (L d) (m + 1) (by omega)
    rw [show (L d).drop (m + 1 + 1) = [] from List.drop_eq_nil_of_le (by omega)] at e2
    simp only [val, Int.mul_zero, Int.add_zero] at e2
    rw [L_val, e2] at e
    exact e
  have hy0 : 0 < (L d).getD (m + 1) 0 := by
    have htop := top_digit (B := (18446744073709551616 : Int)) (by decide) hDd (n := m + 1) hm
    rw [L_val] at htop
    have hge := L_le (n := d) (m := m + 1) (by omega)
    have : 1 ≤ (d : Int) / (18446744073709551616 : Int) ^ (m + 1) := by
      refine (Int.le_ediv_iff_mul_le (Int.pow_pos (by decide))).2 ?_
      have e : ((18446744073709551616 : Int) ^ (m + 1)) = ((18446744073709551616 ^ (m + 1) : Nat) : Int) := by rw [Int.natCast_pow]; rfl
      rw [e, Int.one_mul]; exact Int.ofNat_le.2 hge
    omega
  obtain ⟨s, hs, hs63, hlo, hhi⟩ := lz_ok (y := (L d).getD (m + 1) 0) ⟨hy0, hy.2⟩
  refine ⟨18446744073709551616 + (L a).length + 1000, fun k hk => ?_⟩
  obtain ⟨k, rfl, hk'⟩ := succOf (k := k) (n := 18446744073709551616 + (L a).length + 999) (by omega)
  obtain ⟨u, u1, u2, u3, u4⟩ := moved_spec hDa (by omega) (s := s) (by omega) k (by omega)
  obtain ⟨v, v1, v2, v3, v4⟩ := moved_spec hDd (by omega) (s := s) (by omega) k (by omega)
  rw [L_val] at u3 v3
  have p2 := two_pos s
  -- the divisor, moved, has no more limbs
  have hvlt : val (18446744073709551616 : Int) v < (18446744073709551616 : Int) ^ (m + 2) := by
    rw [v3]
    have e := etop
    have t := take_bd hDd (m := m + 1) (by omega)
    -- (y + 1) * 2^s ≤ B
    have hB := split64 s (by omega)
    have hy1 : (L d).getD (m + 1) 0 + 1 ≤ 2 ^ (64 - s) := by
      have : (L d).getD (m + 1) 0 * 2 ^ s < 2 ^ (64 - s) * 2 ^ s := by rw [Int.mul_comm (2 ^ (64 - s)), hB]; exact hhi
      have := Int.lt_of_mul_lt_mul_right this (by omega)
      omega
    have h3 : ((L d).getD (m + 1) 0 + 1) * 2 ^ s ≤ (18446744073709551616 : Int) := by
      have : ((L d).getD (m + 1) 0 + 1) * 2 ^ s ≤ 2 ^ (64 - s) * 2 ^ s := Int.mul_le_mul_of_nonneg_right hy1 (by omega)
      rw [Int.mul_comm (2 ^ (64 - s)), hB] at this; exact this
    have hP : 0 < (18446744073709551616 : Int) ^ (m + 1) := Int.pow_pos (by decide)
    have h4 : 2 ^ s * (d : Int) < 2 ^ s * ((18446744073709551616 : Int) ^ (m + 1) * ((L d).getD (m + 1) 0 + 1)) := Int.mul_lt_mul_of_pos_left (by rw [e, Int.mul_add]; omega) p2
    have h5 : (18446744073709551616 : Int) ^ (m + 1) * (((L d).getD (m + 1) 0 + 1) * 2 ^ s) ≤ (18446744073709551616 : Int) ^ (m + 1) * (18446744073709551616 : Int) := Int.mul_le_mul_of_nonneg_left h3 (Int.le_of_lt hP)
    have h6 : 2 ^ s * ((18446744073709551616 : Int) ^ (m + 1) * ((L d).getD (m + 1) 0 + 1)) = (18446744073709551616 : Int) ^ (m + 1) * (((L d).getD (m + 1) 0 + 1) * 2 ^ s) := by grind
    have h7 : (18446744073709551616 : Int) ^ (m + 2) = (18446744073709551616 : Int) ^ (m + 1) * (18446744073709551616 : Int) := Int.pow_succ ..
    omega
  have hw : val (18446744073709551616 : Int) (v.take (m + 2)) = 2 ^ s * (d : Int) := by
    have e := val_take_drop (B := (18446744073709551616 : Int)) v (m + 2) (by omega)
    have h2 := val_nonneg (B := (18446744073709551616 : Int)) (by decide) (v2.drop (m + 2))
    have h1 := val_nonneg (B := (18446744073709551616 : Int)) (by decide) (v2.take (m + 2))
    by_cases h0 : val (18446744073709551616 : Int) (v.drop (m + 2)) = 0
    · rw [h0, v3] at e; simp at e; exact e.symm
    · exfalso
      have h3 : (18446744073709551616 : Int) ^ (m + 2) * 1 ≤ (18446744073709551616 : Int) ^ (m + 2) * val (18446744073709551616 : Int) (v.drop (m + 2)) := Int.mul_le_mul_of_nonneg_left (by omega) (Int.le_of_lt (Int.pow_pos (by decide)))
      omega
  have hwd : Dg (18446744073709551616 : Int) (v.take (m + 2)) := v2.take _
  have hwl : (v.take (m + 2)).length = m + 2 := by simp; omega
  have hwn : 9223372036854775808 ≤ (v.take (m + 2)).getD (m + 1) 0 := by
    rw [top_digit (B := (18446744073709551616 : Int)) (by decide) hwd (n := m + 1) hwl, hw]
    refine (Int.le_ediv_iff_mul_le (Int.pow_pos (by decide))).2 ?_
    have e := etop
    have t := take_bd hDd (m := m + 1) (by omega)
    have h1 : (18446744073709551616 : Int) ^ (m + 1) * 9223372036854775808 ≤ (18446744073709551616 : Int) ^ (m + 1) * ((L d).getD (m + 1) 0 * 2 ^ s) := Int.mul_le_mul_of_nonneg_left hlo (Int.le_of_lt (Int.pow_pos (by decide)))
    have h2 : 2 ^ s * ((18446744073709551616 : Int) ^ (m + 1) * (L d).getD (m + 1) 0) ≤ 2 ^ s * (d : Int) := Int.mul_le_mul_of_nonneg_left (by rw [e]; omega) (by omega)
    have h3 : 2 ^ s * ((18446744073709551616 : Int) ^ (m + 1) * (L d).getD (m + 1) 0) = (18446744073709551616 : Int) ^ (m + 1) * ((L d).getD (m + 1) 0 * 2 ^ s) := by grind
    rw [Int.mul_comm]
    omega
  -- the loop
  obtain ⟨Lq, hLq⟩ : ∃ Lq, (L a).length + 1 = Lq + (m + 2) := ⟨(L a).length + 1 - (m + 2), by omega⟩
  obtain ⟨u', q', r1, r2, r3, r4, r5, r6, r7⟩ := long_loop hwd hwl (by omega) hwn (V := 2 ^ s * (d : Int)) (U0 := 2 ^ s * (a : Int)) hw (Lq := Lq) (by omega) (s : Int) Lq u (List.replicate Lq 0) (Nat.le_refl _) (by simp) (by omega) u2 (rep_dg _) (fun x _ => rep_get) (by rw [val_replicate, u3]; simp) (by
    rw [u3]
    have hA := L_lt a
    have hA : (a : Int) < (18446744073709551616 : Int) ^ (L a).length := by
      have e : ((18446744073709551616 : Int) ^ (L a).length) = ((18446744073709551616 ^ (L a).length : Nat) : Int) := by rw [Int.natCast_pow]; rfl
      rw [e]; exact Int.ofNat_lt.2 hA
    have hge := L_le (n := d) (m := m + 1) (by omega)
    have e := etop
    have t := take_bd hDd (m := m + 1) (by omega)
    have h1 : (18446744073709551616 : Int) ^ (m + 1) * 9223372036854775808 ≤ (18446744073709551616 : Int) ^ (m + 1) * ((L d).getD (m + 1) 0 * 2 ^ s) := Int.mul_le_mul_of_nonneg_left hlo (Int.le_of_lt (Int.pow_pos (by decide)))
    have h2 : 2 ^ s * ((18446744073709551616 : Int) ^ (m + 1) * (L d).getD (m + 1) 0) ≤ 2 ^ s * (d : Int) := Int.mul_le_mul_of_nonneg_left (by rw [e]; omega) (by omega)
    have h3 : 2 ^ s * ((18446744073709551616 : Int) ^ (m + 1) * (L d).getD (m + 1) 0) = (18446744073709551616 : Int) ^ (m + 1) * ((L d).getD (m + 1) 0 * 2 ^ s) := by grind
    have h4 : (18446744073709551616 : Int) ^ Lq * ((18446744073709551616 : Int) ^ (m + 1) * 9223372036854775808) ≤ (18446744073709551616 : Int) ^ Lq * (2 ^ s * (d : Int)) := Int.mul_le_mul_of_nonneg_left (by omega) (Int.le_of_lt (Int.pow_pos (by decide)))
    have h5 : (18446744073709551616 : Int) ^ (L a).length = (18446744073709551616 : Int) ^ Lq * (18446744073709551616 : Int) ^ (m + 1) := by rw [← Int.pow_add]; congr 1; omega
    have h6 : (2 : Int) ^ s ≤ 9223372036854775808 := by
      have : (2 : Nat) ^ s ≤ 2 ^ 63 := Nat.pow_le_pow_right (by decide) hs63
      have := Int.ofNat_le.2 this
      rw [Int.natCast_pow, Int.natCast_pow] at this
      exact this
    have h7 : 2 ^ s * (a : Int) < 2 ^ s * (18446744073709551616 : Int) ^ (L a).length := Int.mul_lt_mul_of_pos_left hA p2
    have h8 : 2 ^ s * (18446744073709551616 : Int) ^ (L a).length ≤ 9223372036854775808 * (18446744073709551616 : Int) ^ (L a).length := Int.mul_le_mul_of_nonneg_right h6 (Int.le_of_lt (Int.pow_pos (by decide)))
    have h9 : 9223372036854775808 * (18446744073709551616 : Int) ^ (L a).length = (18446744073709551616 : Int) ^ Lq * ((18446744073709551616 : Int) ^ (m + 1) * 9223372036854775808) := by rw [h5]; grind
    omega) k k (by omega) (by omega)
  -- what it tells
  have z0 := val_nonneg (B := (18446744073709551616 : Int)) (by decide) r3
  have z1 := val_nonneg (B := (18446744073709551616 : Int)) (by decide) r4
  have hdm : ((a / d : Nat) : Int) * (d : Int) + ((a % d : Nat) : Int) = (a : Int) := by
    have := Nat.div_add_mod a d
    have h := congrArg (fun n : Nat => (n : Int)) this
    simp only [Int.natCast_add, Int.natCast_mul] at h
    rw [Int.mul_comm]; exact h
  have hml : ((a % d : Nat) : Int) < (d : Int) := Int.ofNat_lt.2 (Nat.mod_lt a hd0)
  have hq : val (18446744073709551616 : Int) q' = ((a / d : Nat) : Int) := by
    have hV : 0 < 2 ^ s * (d : Int) := Int.mul_pos p2 (by omega)
    have e1 : val (18446744073709551616 : Int) q' = (2 ^ s * (a : Int)) / (2 ^ s * (d : Int)) := by
      rw [← r6, Int.add_mul_ediv_left _ _ (by omega), Int.ediv_eq_zero_of_lt z0 r5]; omega
    rw [e1, Int.mul_ediv_mul_of_pos _ _ p2, Int.natCast_ediv]
  have hr : val (18446744073709551616 : Int) u' = ((2 ^ s * (a % d) : Nat) : Int) := by
    rw [Int.natCast_mul, Int.natCast_pow]
    have e : 2 ^ s * (a : Int) = 2 ^ s * ((a % d : Nat) : Int) + 2 ^ s * (d : Int) * ((a / d : Nat) : Int) := by rw [← hdm]; grind
    rw [hq] at r6
    show val (18446744073709551616 : Int) u' = 2 ^ s * _
    omega
  refine ⟨q', r4, by omega, hq, fun F => ?_⟩
  have tail := longTail_eq (s := s) (r := a % d) (by omega) (q := q') r3 hr (by omega) k (by omega)
  have w1 : Go.IntKind.i64.wrap (((L d).length : Int) - 1) = ((m + 1 : Nat) : Int) := by rw [wi (by omega) (by omega)]; omega
  have w2 : Go.IntKind.u64.wrap (s : Int) = (s : Int) := by rw [wu]; omega
  have w3 : Go.IntKind.i64.wrap ((u.length : Int) - ((m + 2 : Nat) : Int)) = (Lq : Int) := by rw [wi (by omega) (by omega)]; omega
  have w4 : Go.IntKind.i64.wrap ((Lq : Int) - 1) = (Lq : Int) - 1 := wi (by omega) (by omega)
  rw [quotLong.eq]
  simp (implicitDefEqProofs := false) only [iteA_eq, w1, Int.toNat_natCast]
  rw [if_pos (by omega), lz_spec hy k (by omega), hs]
  simp (implicitDefEqProofs := false) only [w2]
  rw [u4, v4]
  simp (implicitDefEqProofs := false) only [List.drop_zero, hm, hwl, w3, Int.toNat_natCast, List.length_replicate, w4]
  rw [if_pos (by omega), if_pos (by omega), r7, tail]
  rfl
end TryzE
end
section
set_option linter.unusedSimpArgs false
set_option linter.unusedVariables false
namespace TryzE
open Go.Eng Go.Proofs Num KD
set_option linter.unusedVariables false
/-! ## What comes to be, with rounds enough -/
def Ev (f : Nat) (sh : Sh) (xs : List AA) (v : sh.ty) : Prop := ∃ K, ∀ k, K ≤ k → ∀ F : sh.ty → Option Res, callT (C k f xs) sh F = F v
def Et (g : Nat → Option Res) (r : Res) : Prop := ∃ K, ∀ k, K ≤ k → g k = some r
theorem Et.ret (r : Res) : Et (fun _ => some r) r := ⟨0, fun _ _ => rfl⟩
theorem Et.call {f : Nat} {xs : List AA} {sh : Sh} {v : sh.ty} {F : Nat → sh.ty → Option Res} {r : Res} (h : Ev f sh xs v) (hF : Et (fun k => F k v) r) : Et (fun k => callT (C k f xs) sh (F k)) r := by
  obtain ⟨K, h⟩ := h
  obtain ⟨K', h'⟩ := hF
  exact ⟨K + K', fun k hk => (h k (by omega) (F k)).trans (h' k (by omega))⟩
theorem Et.pos {c : Prop} [Decidable c] {a b : Nat → Option Res} {r : Res} (hc : c) (h : Et a r) : Et (fun k => iteA c (a k) (b k)) r := by
  obtain ⟨K, h⟩ := h
  exact ⟨K, fun k hk => by show iteA c (a k) (b k) = some r; rw [iteA_eq, if_pos hc]; exact h k hk⟩
theorem Et.neg {c : Prop} [Decidable c] {a b : Nat → Option Res} {r : Res} (hc : ¬ c) (h : Et b r) : Et (fun k => iteA c (a k) (b k)) r := by
  obtain ⟨K, h⟩ := h
  exact ⟨K, fun k hk => by show iteA c (a k) (b k) = some r; rw [iteA_eq, if_neg hc]; exact h k hk⟩
theorem Et.to {a b : Nat → Option Res} {r : Res} (he : ∀ k, a k = b k) (h : Et b r) : Et a r := by
  obtain ⟨K, h⟩ := h
  exact ⟨K, fun k hk => (he k).trans (h k hk)⟩
theorem Ev.of {f : Nat} {sh : Sh} {xs : List AA} {v : sh.ty} {g : Nat → Option Res} {r : Res} (he : ∀ k, C (k + 1) f xs = g k) (h : Et g r) (hr : ∀ F : sh.ty → Option Res, callT (some r) sh F = F v) : Ev f sh xs v := by
  obtain ⟨K, h⟩ := h
  refine ⟨K + 1, fun k hk F => ?_⟩
  obtain ⟨k, rfl, hk'⟩ := succOf (k := k) (n := K) (by omega)
  rw [he, h k hk', hr]
/-! ## Sizes -/
def Sz (n : Nat) : Prop := ∀ E, E = 1000000 → n < 2 ^ E
theorem sz_len {n : Nat} (E : Nat) (hE : E = 1000000) (M : Nat) (hM : M = 15625) (h : n < 2 ^ E) : (L n).length ≤ M := by
  refine L_len (Nat.lt_of_lt_of_le h ?_)
  rw [show 18446744073709551616 = 2 ^ 64 from rfl, ← Nat.pow_mul]
  exact Nat.pow_le_pow_right (by decide) (by omega)
theorem Sz.len {n : Nat} (h : Sz n) : (L n).length ≤ 15625 := by
  obtain ⟨E, hE⟩ : ∃ E, E = 1000000 := ⟨_, rfl⟩
  exact sz_len E hE 15625 rfl (h E hE)
theorem Sz.of {n b : Nat} (h : n < 2 ^ b) (hb : b ≤ 1000000) : Sz n := fun E hE => Nat.lt_of_lt_of_le h (Nat.pow_le_pow_right (by decide) (by omega))
theorem Sz.mono {n m : Nat} (h : Sz m) (hn : n ≤ m) : Sz n := fun E hE => Nat.lt_of_le_of_lt hn (h E hE)
/-! ## Numbers from 0 on -/
abbrev nP (n : Nat) : PA := .agg [.sl (.int .u64) (L n)]
abbrev nA (n : Nat) : AA := .v (nP n)
theorem zero_ev (n : Nat) : Ev 77 sh77 [nA n] (decide (n = 0)) := by
  refine ⟨1, fun k hk F => ?_⟩
  rw [zero_spec (L n) k hk F]
  congr 1
  exact decide_eq_decide.2 L_nil
theorem of1_ev (n : Nat) (hn : n < 18446744073709551616) : Ev 61 sh61 [.v (.c (.sl (.int .u64) [(n : Int)]))] (L n) :=
  ⟨5, fun k hk F => of_spec [(n : Int)] n (by intro d hd; simp at hd; omega) (by simp [val]) (by simp) k (by simp; omega) F⟩
theorem add_ev {a b : Nat} (ha : Sz a) (hb : Sz b) : Ev 116 sh116 [nA a, nA b] (L (a + b)) := add_spec a b (by have := ha.len; omega) (by have := hb.len; omega)
theorem mul_ev {a b : Nat} (ha : Sz a) (hb : Sz b) : Ev 80 sh80 [nA a, nA b] (L (a * b)) := mul_spec a b (by have := ha.len; omega) (by have := hb.len; omega)
theorem cmp_ev {a b : Nat} (ha : Sz a) (hb : Sz b) : Ev 158 sh158 [nA a, nA b] (sgn a b) := ⟨(L a).length + 4, cmp_spec a b (by have := ha.len; omega) (by have := hb.len; omega)⟩
theorem print_ev {a : Nat} (ha : Sz a) : Ev 70 sh70 [nA a] (dec a) := print_spec a (by have := ha.len; omega)
/-! Sub -/
theorem nsub_loop {a b : Nat} (hab : b ≤ a) (ha : Sz a) : ∀ (r i : Nat) (c : Int) (out : List Int), i + r = (L a).length → out.length = (L a).length → Dg (18446744073709551616 : Int) out → (c = 0 ∨ c = 1) →
    val (18446744073709551616 : Int) (out.take i) - (18446744073709551616 : Int) ^ i * c = val (18446744073709551616 : Int) ((L a).take i) - val (18446744073709551616 : Int) ((L b).take i) → ∀ k n, 2 ≤ k → r + 1 ≤ n → ∃ out' : List Int, out'.length = (L a).length ∧ Dg (18446744073709551616 : Int) out' ∧ val (18446744073709551616 : Int) out' = ((a - b : Nat) : Int) ∧
      natNatSub.l0 k n c ((L a).length : Int) (i : Int) (L a) (L b) out = (callT (C k 110 [(.v (.c (.sl (.int .u64) out')))]) sh110 fun (y4 : List Int) => (some ⟨[(.v (.agg [(.sl (.int .u64) y4)])), (.v (.c (.bool true)))], []⟩)) := by
  have hN := ha.len
  have hbl : (L b).length ≤ (L a).length := L_mono hab
  intro r
  induction r with
  | zero =>
    intro i c out hi ho hd hc hv k n hk hn
    obtain ⟨n, rfl, hn'⟩ := succOf (k := n) (n := 0) (by omega)
    have : i = (L a).length := by omega
    subst this
    rw [List.take_of_length_le (by omega), List.take_of_length_le (Nat.le_refl _), List.take_of_length_le hbl, L_val, L_val] at hv
    refine ⟨out, ho, hd, ?_, ?_⟩
    · have h0 := val_nonneg (B := (18446744073709551616 : Int)) (by decide) hd
      have h1 := val_lt (B := (18446744073709551616 : Int)) (by decide) hd
      rw [ho] at h1
      have hA := L_lt a
      have hA : (a : Int) < (18446744073709551616 : Int) ^ (L a).length := by
        have e : ((18446744073709551616 : Int) ^ (L a).length) = ((18446744073709551616 ^ (L a).length : Nat) : Int) := by rw [Int.natCast_pow]; rfl
        rw [e]; exact Int.ofNat_lt.2 hA
      rcases hc with rfl | rfl
      · omega
      · omega
    · rw [natNatSub.l0_succ, iteA_eq, if_neg (by simp)]
  | succ r ih =>
    intro i c out hi ho hd hc hv k n hk hn
    obtain ⟨n, rfl, hn'⟩ := succOf (k := n) (n := r + 1) (by omega)
    have xa := (L_dg a).getD (by decide) i
    have xb := (L_dg b).getD (by decide) i
    have hlt : i < out.length := by omega
    obtain ⟨out', r1, r2, r3, r4⟩ := ih (i + 1) (-(((L a).getD i 0 - (L b).getD i 0 - c) / (18446744073709551616 : Int))) (out.set i (((L a).getD i 0 - (L b).getD i 0 - c) % (18446744073709551616 : Int))) (by omega) (by simpa using ho) (hd.set i (by omega) (by omega)) (by omega) (by
      rw [val_take_succ, val_take_succ, val_take_succ, take_set_self, getD_set_self hlt, Int.pow_succ]
      have e1 := Int.mul_ediv_add_emod ((L a).getD i 0 - (L b).getD i 0 - c) (18446744073709551616 : Int)
      generalize ((L a).getD i 0 - (L b).getD i 0 - c) / (18446744073709551616 : Int) = Q at *
      generalize ((L a).getD i 0 - (L b).getD i 0 - c) % (18446744073709551616 : Int) = M at *
      have e : (18446744073709551616 : Int) ^ i * M = (18446744073709551616 : Int) ^ i * ((L a).getD i 0 - (L b).getD i 0 - c - (18446744073709551616 : Int) * Q) := by rw [show M = (L a).getD i 0 - (L b).getD i 0 - c - (18446744073709551616 : Int) * Q by omega]
      grind) k n hk hn'
    refine ⟨out', r1, r2, r3, ?_⟩
    rw [← r4, natNatSub.l0_succ]
    simp (implicitDefEqProofs := false) only [iteA_eq, Int.toNat_natCast]
    rw [if_pos (by simp; omega), if_pos (by omega), limb_spec _ _ k (by omega), sub64_spec xa xb hc k (by omega), if_pos (by omega), wi (by omega) (by omega)]
    rfl
theorem nsub_ev {a b : Nat} (ha : Sz a) (hab : b ≤ a) : Ev 118 sh118 [nA a, nA b] (L (a - b), true) := by
  have hN := ha.len
  have hbl : (L b).length ≤ (L a).length := L_mono hab
  refine ⟨(L a).length + 30, fun k hk F => ?_⟩
  obtain ⟨k, rfl, hk'⟩ := succOf (k := k) (n := (L a).length + 29) (by omega)
  obtain ⟨out', r1, r2, r3, r4⟩ := nsub_loop hab ha (L a).length 0 0 (List.replicate (L a).length 0) (by omega) (by simp) (rep_dg _) (.inl rfl) (by simp [val]) k k (by omega) (by omega)
  rw [natNatSub.eq, cmp_spec a b (by omega) (by omega) k (by omega)]
  simp (implicitDefEqProofs := false) only [iteA_eq, Int.toNat_natCast, List.length_replicate]
  rw [if_neg (by unfold sgn; rw [if_neg (by omega)]; split <;> simp), if_pos (by omega), show natNatSub.l0 k k 0 ((L a).length : Int) 0 (L a) (L b) _ = _ from r4, trimmed_spec out' (a - b) r2 r3 (by omega) k (by omega)]
  rfl
theorem nsub_less {a b : Nat} (ha : Sz a) (hb : Sz b) (hab : a < b) : Ev 118 sh118 [nA a, nA b] (L 0, false) :=
  Ev.of (fun k => natNatSub.eq k _ _) (.call (cmp_ev ha hb) (.pos (by unfold sgn; rw [if_pos hab]; decide) (.ret _))) (fun F => rfl)
/-! Div, Gcd -/
theorem div_ev {a d : Nat} (ha : Sz a) (hd0 : 0 < d) (hd : Sz d) : Ev 121 sh121 [nA a, nA d] (L (a / d), L (a % d), 0) := by
  have hN := ha.len
  by_cases h1 : (L d).length = 1
  · refine div1_spec a d ⟨hd0, ?_⟩ (by omega)
    have := L_lt d
    rw [h1] at this
    simpa using this
  have hz : ¬ (decide (d = 0) = true) := by simp; omega
  by_cases had : a < d
  · rw [Nat.div_eq_of_lt had, Nat.mod_eq_of_lt had]
    exact Ev.of (fun k => quotDiv.eq k _ _) (.call (zero_ev d) (.neg hz (.call (cmp_ev ha hd) (.pos (by unfold sgn; rw [if_pos had]; decide) (.ret _))))) (fun F => rfl)
  · have h2 : 2 ≤ (L d).length := by
      have : (L d).length ≠ 0 := fun h => by have := L_nil.1 (List.eq_nil_of_length_eq_zero h); omega
      omega
    have hld := hd.len
    obtain ⟨K, hK⟩ := long_spec a d h2 (by omega) (by omega)
    have hml : (L (a % d)).length ≤ (L a).length := L_mono (Nat.mod_le a d)
    refine ⟨K + (L a).length + 100, fun k hk F => ?_⟩
    obtain ⟨k, rfl, hk'⟩ := succOf (k := k) (n := K + (L a).length + 99) (by omega)
    obtain ⟨q, q1, q2, q3, q4⟩ := hK k (by omega)
    rw [quotDiv.eq, zero_spec _ k (by omega)]
    simp (implicitDefEqProofs := false) only [iteA_eq]
    rw [if_neg (by rw [decide_eq_true_eq, L_nil]; omega), cmp_spec a d (by omega) (by omega) k (by omega), if_neg (by unfold sgn; rw [if_neg had]; split <;> simp), limbs_spec _ (by omega) k (by omega), limbs_spec _ (by omega) k (by omega), if_neg (by simp; omega), q4]
    have e1 := of_spec q (a / d) q1 q3 (by omega) k (by omega)
    have e2 := of_spec (L (a % d)) (a % d) (L_dg _) (L_val _) (by omega) k (by omega)
    rw [e1, e2]
    rfl
theorem gcd_loop : ∀ (b a : Nat), Sz a → Sz b → ∃ K, ∀ k n, K ≤ k → K ≤ n → quotGcd.l0 k n (L a) (L b) = some ⟨[(.v (nP (Nat.gcd b a)))], []⟩ := by
  intro b
  induction b using Nat.strongRecOn with
  | _ b ih =>
    intro a ha hb
    obtain ⟨K0, h0⟩ := zero_ev b
    rcases Nat.eq_zero_or_pos b with rfl | hb0
    · refine ⟨K0 + 1, fun k n hk hn => ?_⟩
      obtain ⟨n, rfl, hn'⟩ := succOf (k := n) (n := K0) (by omega)
      refine (quotGcd.l0_succ k n (L a) (L 0)).trans ((h0 k (by omega) _).trans ?_)
      rw [iteA_eq, if_neg (by simp), Nat.gcd_zero_left]
    · obtain ⟨K1, h1⟩ := div_ev ha hb0 hb
      obtain ⟨K2, h2⟩ := ih (a % b) (Nat.mod_lt a hb0) b hb (ha.mono (Nat.mod_le a b))
      refine ⟨K0 + K1 + K2 + 1, fun k n hk hn => ?_⟩
      obtain ⟨n, rfl, hn'⟩ := succOf (k := n) (n := K0 + K1 + K2) (by omega)
      refine (quotGcd.l0_succ k n (L a) (L b)).trans ((h0 k (by omega) _).trans ?_)
      rw [iteA_eq, if_pos (by simp; omega)]
      refine (h1 k (by omega) _).trans ((h2 k n (by omega) (by omega)).trans ?_)
      rw [← Nat.gcd_rec]
theorem gcd_ev {a b : Nat} (ha : Sz a) (hb : Sz b) : Ev 131 sh131 [nA a, nA b] (L (Nat.gcd b a)) := by
  obtain ⟨K, h⟩ := gcd_loop b a ha hb
  exact Ev.of (g := fun k => quotGcd.l0 k k (L a) (L b)) (fun k => quotGcd.eq k _ _) ⟨K, fun k hk => h k k hk hk⟩ (fun F => rfl)
end TryzE
end
