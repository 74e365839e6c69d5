/- The document's own quotient, texts, fractions and rounding; the law of the parts holds of every input. -/
import Derived.Test.YtjkfpbfimcpoeaaGreatDoorPlnC
section
set_option linter.unusedSimpArgs false
set_option linter.unusedVariables false
namespace TryzE
open Go.Eng Go.Proofs Num KD
set_option linter.unusedVariables false
/-! ## The document's numbers: order, difference, quotient -/
theorem rcmp_loop {l m : List Int} (hl : Dg 10000 l) (hm : Dg 10000 m) (he : l.length = m.length) (hs : (l.length : Int) < 1000000000) : ∀ (j : Nat), j ≤ l.length → l.drop j = m.drop j → ∀ k n, j + 1 ≤ n → ref01Cmp.l0 k n l m ((j : Int) - 1) = some ⟨[(.v (.c (.int .i64 (sgnI (val 10000 l) (val 10000 m)))))], []⟩ := by
  intro j
  induction j with
  | zero =>
    intro hj hd k n hn
    obtain ⟨n, rfl, hn'⟩ := succOf hn
    have e : l = m := by simpa using hd
    subst e
    rw [ref01Cmp.l0_succ]
    simp (implicitDefEqProofs := false) only [iteA_eq]
    rw [if_neg (by simp)]
    unfold sgnI
    rw [if_neg (by omega), if_neg (by omega)]
  | succ j ih =>
    intro hj hd k n hn
    obtain ⟨n, rfl, hn'⟩ := succOf hn
    have e0 : ((j + 1 : Nat) : Int) - 1 = (j : Int) := by omega
    rw [ref01Cmp.l0_succ, e0]
    simp (implicitDefEqProofs := false) only [iteA_eq, Int.toNat_natCast]
    rw [if_pos (by simp), if_pos (by omega), if_pos (by omega)]
    by_cases h1 : l.getD j 0 < m.getD j 0
    · have := val_lt_at (B := 10000) (by decide) hl hm he (by omega) hd h1
      rw [if_pos (by simpa using h1)]
      unfold sgnI
      rw [if_pos this]
    · rw [if_neg (by simpa using h1), if_pos (by omega), if_pos (by omega)]
      by_cases h2 : m.getD j 0 < l.getD j 0
      · have := val_lt_at (B := 10000) (by decide) hm hl he.symm (by omega) hd.symm h2
        rw [if_pos (by simpa using h2)]
        unfold sgnI
        rw [if_neg (by omega), if_pos this]
      · rw [if_neg (by simpa using h2), wi (by omega) (by omega)]
        refine ih (by omega) ?_ k n hn'
        rw [List.drop_eq_getElem_cons (show j < l.length by omega), List.drop_eq_getElem_cons (show j < m.length by omega), hd]
        have h3 : l.getD j 0 = m.getD j 0 := by omega
        have g1 : l.getD j 0 = l[j]'(by omega) := by simp [List.getD_eq_getElem?_getD, List.getElem?_eq_getElem (show j < l.length by omega)]
        have g2 : m.getD j 0 = m[j]'(by omega) := by simp [List.getD_eq_getElem?_getD, List.getElem?_eq_getElem (show j < m.length by omega)]
        rw [← g1, ← g2, h3]
theorem R_ofLen {a b : Nat} (h : (R a).length < (R b).length) : a < b := by
  rcases Nat.lt_or_ge a b with h' | h'
  · exact h'
  · have := R_mono h'; omega
theorem rcmp_spec (a b : Nat) (ha : (R a).length < 100000000) (hb : (R b).length < 100000000) : ∀ k, (R a).length + 3 ≤ k → ∀ F : Int → Option Res, callT (C k 127 [rA a, rA b]) sh127 F = F (sgn a b) := by
  intro k hk F
  obtain ⟨k, rfl, hk'⟩ := succOf (k := k) (n := (R a).length + 2) (by omega)
  have hs : sgnI (a : Int) (b : Int) = sgn a b := by
    unfold sgnI sgn
    by_cases h : a < b
    · rw [if_pos h, if_pos (by omega)]
    · rw [if_neg h, if_neg (by omega)]
      by_cases h' : b < a
      · rw [if_pos h', if_pos (by omega)]
      · rw [if_neg h', if_neg (by omega)]
  rw [ref01Cmp.eq]
  simp (implicitDefEqProofs := false) only [iteA_eq]
  by_cases he : (R a).length = (R b).length
  · rw [if_neg (by simp [he]), wi (by omega) (by omega), rcmp_loop (R_dg a) (R_dg b) he (by omega) (R a).length (Nat.le_refl _) (by rw [List.drop_length, he, List.drop_length]) k k (by omega), R_val, R_val, hs]
    rfl
  · rw [if_pos (by simp; omega)]
    by_cases hlt : (R a).length < (R b).length
    · have := R_ofLen hlt
      rw [if_pos (by simp; omega)]
      unfold sgn
      rw [if_pos this]
      rfl
    · have := R_ofLen (a := b) (b := a) (by omega)
      rw [if_neg (by simp; omega)]
      unfold sgn
      rw [if_neg (by omega), if_pos this]
      rfl
theorem rsub_loop {a b : List Int} (ha : Dg 10000 a) (hb : Dg 10000 b) (hN : a.length < 100000000) : ∀ (r i : Nat) (c : Int) (out : List Int), i + r = a.length → out.length = i → Dg 10000 out → (c = 0 ∨ c = 1) →
    val 10000 out - 10000 ^ i * c = val 10000 (a.take i) - val 10000 (b.take i) → ∀ k n, 2 ≤ k → r + 1 ≤ n →
    ∃ (out' : List Int) (c' : Int), out'.length = a.length ∧ Dg 10000 out' ∧ (c' = 0 ∨ c' = 1) ∧ val 10000 out' - 10000 ^ a.length * c' = val 10000 (a.take a.length) - val 10000 (b.take a.length) ∧
      ref01Sub.l0 k n a b c (i : Int) out = callT (C k 143 [(.v (.c (.sl (.int .i64) out')))]) sh143 fun (y1 : List Int) => (some ⟨[(.v (.c (.sl (.int .i64) y1)))], []⟩) := by
  intro r
  induction r with
  | zero =>
    intro i c out hi ho hd hc hv k n hk hn
    obtain ⟨n, rfl, hn'⟩ := succOf hn
    have : i = a.length := by omega
    subst this
    refine ⟨out, c, ho, hd, hc, hv, ?_⟩
    rw [ref01Sub.l0_succ]
    simp (implicitDefEqProofs := false) only [iteA_eq]
    rw [if_neg (by simp)]
  | succ r ih =>
    intro i c out hi ho hd hc hv k n hk hn
    obtain ⟨n, rfl, hn'⟩ := succOf hn
    have xa := ha.getD (by decide) i
    have xb := hb.getD (by decide) i
    rw [ref01Sub.l0_succ]
    simp (implicitDefEqProofs := false) only [iteA_eq, Int.toNat_natCast, List.length_singleton]
    have w1 : Go.IntKind.i64.wrap (Go.IntKind.i64.wrap (a.getD i 0 - b.getD i 0) - c) = a.getD i 0 - b.getD i 0 - c := by rw [wi (x := a.getD i 0 - b.getD i 0) (by omega) (by omega), wi (by omega) (by omega)]
    have w2 : Go.IntKind.i64.wrap ((i : Int) + 1) = ((i + 1 : Nat) : Int) := by rw [wi (by omega) (by omega)]; omega
    by_cases h1 : a.getD i 0 - b.getD i 0 - c < 0
    · obtain ⟨out', c', r1, r2, r3, r4, r5⟩ := ih (i + 1) 1 (out ++ [a.getD i 0 - b.getD i 0 - c + 10000]) (by omega) (by rw [List.length_append, List.length_singleton, ho]) (hd.append (Dg.cons (by omega) (by omega) Dg.nil)) (.inr rfl) (by
        rw [val_snoc, val_take_succ, val_take_succ, ho, Int.pow_succ]
        grind) k n hk hn'
      refine ⟨out', c', r1, r2, r3, r4, ?_⟩
      rw [if_pos (by simp; omega), at_spec _ _ k (by omega), if_pos (by omega), w1, if_pos (by simpa using h1), wi (x := a.getD i 0 - b.getD i 0 - c + 10000) (by omega) (by omega), if_pos (by omega), w2]
      exact r5
    · obtain ⟨out', c', r1, r2, r3, r4, r5⟩ := ih (i + 1) 0 (out ++ [a.getD i 0 - b.getD i 0 - c]) (by omega) (by rw [List.length_append, List.length_singleton, ho]) (hd.append (Dg.cons (by omega) (by omega) Dg.nil)) (.inl rfl) (by
        rw [val_snoc, val_take_succ, val_take_succ, ho, Int.pow_succ]
        grind) k n hk hn'
      refine ⟨out', c', r1, r2, r3, r4, ?_⟩
      rw [if_pos (by simp; omega), at_spec _ _ k (by omega), if_pos (by omega), w1, if_neg (by simpa using h1), if_pos (by omega), w2]
      exact r5
theorem rsub_spec {a b : Nat} (hab : b ≤ a) (ha : (R a).length < 10000000) : ∀ k, (R a).length + 5 ≤ k → ∀ F : List Int → Option Res, callT (C k 150 [rA a, rA b]) sh150 F = F (R (a - b)) := by
  intro k hk F
  obtain ⟨k, rfl, hk'⟩ := succOf (k := k) (n := (R a).length + 4) (by omega)
  obtain ⟨out', c', r1, r2, r3, r4, r5⟩ := rsub_loop (R_dg a) (R_dg b) (by omega) (R a).length 0 0 [] (by omega) rfl Dg.nil (.inl rfl) (by simp [val]) k k (by omega) (by omega)
  have hb := R_mono hab
  rw [List.take_of_length_le (Nat.le_refl _), List.take_of_length_le hb, R_val, R_val] at r4
  have hv : val 10000 out' = ((a - b : Nat) : Int) := by
    have h0 := val_nonneg (B := 10000) (by decide) r2
    have h1 := val_lt (B := 10000) (by decide) r2
    rw [r1] at h1
    rcases r3 with rfl | rfl <;> omega
  rw [ref01Sub.eq, show ref01Sub.l0 k k (R a) (R b) 0 0 [] = _ from r5, trim_spec out' (a - b) r2 hv (by omega) k (by omega)]
  rfl
/-- As many facts as there are numbers below N have one fuel for all of them. -/
theorem unif {P : Nat → Nat → Prop} : ∀ N : Nat, (∀ m, m < N → ∃ K, ∀ k, K ≤ k → P m k) → ∃ K, ∀ m, m < N → ∀ k, K ≤ k → P m k
  | 0, _ => ⟨0, fun m hm => absurd hm (by omega)⟩
  | N + 1, h => by
    obtain ⟨K, hK⟩ := unif N (fun m hm => h m (by omega))
    obtain ⟨K', hK'⟩ := h N (by omega)
    refine ⟨K + K', fun m hm k hk => ?_⟩
    by_cases e : m = N
    · subst e; exact hK' k (by omega)
    · exact hK m (by omega) k (by omega)
theorem sgn_le {a b : Nat} (h : a ≤ b) : decide (sgn a b ≤ 0) = true := by
  unfold sgn
  by_cases h1 : a < b
  · rw [if_pos h1]; rfl
  · rw [if_neg h1, if_neg (by omega)]; rfl
theorem sgn_gt {a b : Nat} (h : ¬ a ≤ b) : ¬ decide (sgn a b ≤ 0) = true := by
  unfold sgn
  rw [if_neg (by omega), if_pos (by omega)]
  decide
theorem rdm_in {b M K : Nat} (A : List Int) (hb : 0 < b) (hbl : (R b).length < 1000000) (hMl : (R M).length < 1000000) (hM : M / b < 10000)
    (hs : ∀ m : Nat, m < 10000 → ∀ k, K ≤ k → (∀ F : List Int → Option Res, callT (C k 112 [(.v (.c (.int .i64 (m : Int))))]) sh112 F = F (R m)) ∧ ∀ F : List Int → Option Res, callT (C k 105 [(.v (.c (.sl (.int .i64) (R b)))), (.v (.c (.sl (.int .i64) (R m))))]) sh105 F = F (R (b * m))) (i : Nat) (q : List Int) (hi : i < q.length) (hq : q.length < 1000000) :
    ∀ (r low high : Nat), high - low ≤ r → low ≤ M / b → M / b ≤ high → high < 10000 → ∀ k n n0, K + (R b).length + (R M).length + 20 ≤ k → r + 1 ≤ n →
      ref01DivMod.l1 k n n0 A (R b) (R M) (i : Int) (low : Int) (high : Int) q = ref01DivMod.l0 k n0 A (R b) (R (M % b)) ((i : Int) - 1) (q.set i ((M / b : Nat) : Int)) := by
  intro r
  induction r with
  | zero =>
    intro low high hr hlo hhi hh k n n0 hk hn
    obtain ⟨n, rfl, hn'⟩ := succOf hn
    have e1 : low = M / b := by omega
    have e2 : high = M / b := by omega
    subst e2
    rw [e1]
    have h1 := (hs (M / b) hM k (by omega)).1
    have h2 := (hs (M / b) hM k (by omega)).2
    have hle : b * (M / b) ≤ M := Nat.mul_div_le M b
    have hmod : M - b * (M / b) = M % b := by have := Nat.div_add_mod M b; omega
    rw [ref01DivMod.l1_succ]
    simp (implicitDefEqProofs := false) only [iteA_eq, Int.toNat_natCast]
    rw [if_neg (by simp), if_pos (by omega), h1, h2, rsub_spec hle (by omega) k (by omega), hmod, wi (by omega) (by omega)]
  | succ r ih =>
    intro low high hr hlo hhi hh k n n0 hk hn
    obtain ⟨n, rfl, hn'⟩ := succOf hn
    by_cases hlt : low < high
    · have hm : (low + high + 1) / 2 < 10000 := by omega
      have h1 := (hs _ hm k (by omega)).1
      have h2 := (hs _ hm k (by omega)).2
      have w : Go.IntKind.i64.wrap ((Go.IntKind.i64.wrap (Go.IntKind.i64.wrap ((low : Int) + (high : Int)) + (1 : Int))).tdiv (2 : Int)) = (((low + high + 1) / 2 : Nat) : Int) := by
        rw [wi (x := (low : Int) + (high : Int)) (by omega) (by omega), wi (x := (low : Int) + (high : Int) + 1) (by omega) (by omega), Int.tdiv_eq_ediv_of_nonneg (by omega), wi (by omega) (by omega)]
        omega
      have hbm : (R (b * ((low + high + 1) / 2))).length < 10000000 := by
        have h3 := R_len (n := b * ((low + high + 1) / 2)) (k := (R b).length + 1) (by
          rw [Nat.pow_succ]
          exact Nat.mul_lt_mul'' (R_lt b) hm)
        omega
      rw [ref01DivMod.l1_succ, w]
      simp (implicitDefEqProofs := false) only [iteA_eq, Int.toNat_natCast]
      rw [if_pos (by simp; omega), h1, h2, rcmp_spec _ _ (by omega) (by omega) k (by
        have h3 := R_len (n := b * ((low + high + 1) / 2)) (k := (R b).length + 1) (by
          rw [Nat.pow_succ]
          exact Nat.mul_lt_mul'' (R_lt b) hm)
        omega)]
      by_cases hc : (low + high + 1) / 2 ≤ M / b
      · have hc' : b * ((low + high + 1) / 2) ≤ M := by rw [Nat.mul_comm]; exact (Nat.le_div_iff_mul_le hb).1 hc
        rw [if_pos (sgn_le hc')]
        exact ih _ _ (by omega) hc hhi hh k n n0 hk hn'
      · have hc' : ¬ b * ((low + high + 1) / 2) ≤ M := by rw [Nat.mul_comm]; exact fun h => hc ((Nat.le_div_iff_mul_le hb).2 h)
        rw [if_neg (sgn_gt hc'), wi (by omega) (by omega), show (((low + high + 1) / 2 : Nat) : Int) - 1 = (((low + high + 1) / 2 - 1 : Nat) : Int) by omega]
        exact ih _ _ (by omega) hlo (by omega) (by omega) k n n0 hk hn'
    · exact ih low high (by omega) hlo hhi hh k (n + 1) n0 hk (by omega)
theorem rdm_loop {a b K : Nat} (hb : 0 < b) (hbl : (R b).length < 900000) (hal : (R a).length < 1000000)
    (hs : ∀ m : Nat, m < 10000 → ∀ k, K ≤ k → (∀ F : List Int → Option Res, callT (C k 112 [(.v (.c (.int .i64 (m : Int))))]) sh112 F = F (R m)) ∧ ∀ F : List Int → Option Res, callT (C k 105 [(.v (.c (.sl (.int .i64) (R b)))), (.v (.c (.sl (.int .i64) (R m))))]) sh105 F = F (R (b * m))) :
    ∀ (r D : Nat) (q : List Int), r ≤ (R a).length → val 10000 ((R a).drop r) = D → q.length = (R a).length → Dg 10000 q → val 10000 (q.drop r) = ((D / b : Nat) : Int) → ∀ k n, K + (R a).length + 2 * (R b).length + 11000 ≤ k → r + 1 ≤ n →
      ref01DivMod.l0 k n (R a) (R b) (R (D % b)) ((r : Int) - 1) q = some ⟨[(.v (.c (.sl (.int .i64) (R (a / b))))), (.v (.c (.sl (.int .i64) (R (a % b)))))], []⟩ := by
  intro r
  induction r with
  | zero =>
    intro D q hr hD hq hdq hv k n hk hn
    obtain ⟨n, rfl, hn'⟩ := succOf hn
    rw [List.drop_zero, R_val] at hD
    have hD : a = D := by omega
    subst hD
    rw [List.drop_zero] at hv
    rw [ref01DivMod.l0_succ]
    simp (implicitDefEqProofs := false) only [iteA_eq]
    rw [if_neg (by simp), trim_spec q (a / b) hdq hv (by omega) k (by omega)]
  | succ r ih =>
    intro D q hr hD hq hdq hv k n hk hn
    obtain ⟨n, rfl, hn'⟩ := succOf hn
    have xr := (R_dg a).getD (by decide) r
    obtain ⟨x, hx⟩ : ∃ x : Nat, (R a).getD r 0 = x := ⟨((R a).getD r 0).toNat, by omega⟩
    have hxl : x < 10000 := by omega
    have hmb := Nat.mod_lt D hb
    have hM : val 10000 ([(R a).getD r 0] ++ R (D % b)) = ((x + 10000 * (D % b) : Nat) : Int) := by
      show val 10000 ((R a).getD r 0 :: R (D % b)) = _
      rw [val, R_val, hx]
      omega
    have hlen : (R (D % b)).length ≤ (R b).length := R_mono (Nat.le_of_lt hmb)
    have hMd : (x + 10000 * (D % b)) / b < 10000 := by
      rw [Nat.div_lt_iff_lt_mul hb]
      have : 10000 * (D % b) + 10000 ≤ 10000 * b := by omega
      omega
    have hMl : (R (x + 10000 * (D % b))).length ≤ (R b).length + 1 := by
      refine R_len (Nat.lt_of_lt_of_le (m := 10000 * b) (by omega) ?_)
      rw [Nat.pow_succ, Nat.mul_comm]
      exact Nat.mul_le_mul_right _ (Nat.le_of_lt (R_lt b))
    have e0 : ((r + 1 : Nat) : Int) - 1 = (r : Int) := by omega
    have hD' : val 10000 ((R a).drop r) = ((x + 10000 * D : Nat) : Int) := by
      rw [List.drop_eq_getElem_cons (show r < (R a).length by omega), val, hD]
      have g1 : (R a).getD r 0 = (R a)[r]'(by omega) := by simp [List.getD_eq_getElem?_getD, List.getElem?_eq_getElem (show r < (R a).length by omega)]
      rw [← g1, hx]; omega
    have hdm := Nat.div_add_mod D b
    have e1 : x + 10000 * D = x + 10000 * (D % b) + b * (10000 * (D / b)) := by
      have : 10000 * D = 10000 * (b * (D / b)) + 10000 * (D % b) := by omega
      rw [this, ← Nat.mul_assoc, ← Nat.mul_assoc, Nat.mul_comm 10000 b]; omega
    have hdiv : (x + 10000 * D) / b = (x + 10000 * (D % b)) / b + 10000 * (D / b) := by rw [e1, Nat.add_mul_div_left _ _ hb]
    have hmod : (x + 10000 * D) % b = (x + 10000 * (D % b)) % b := by rw [e1, Nat.add_mul_mod_self_left]
    have inn := rdm_in (M := x + 10000 * (D % b)) (R a) hb (by omega) (by omega) hMd hs r q (by omega) (by omega) 9999 0 9999 (by omega) (Nat.zero_le _) (Nat.le_of_lt_succ hMd) (by decide) k k n (by omega) (by omega)
    obtain ⟨Q, hQ⟩ : ∃ Q, (x + 10000 * (D % b)) / b = Q := ⟨_, rfl⟩
    rw [hQ] at hMd hdiv inn
    have hset : val 10000 ((q.set r (Q : Int)).drop r) = (((x + 10000 * D) / b : Nat) : Int) := by
      rw [List.drop_eq_getElem_cons (show r < (q.set r _).length by rw [List.length_set]; omega), List.getElem_set_self, List.drop_set_of_lt (by omega), val, hv, hdiv, Int.natCast_add, Int.natCast_mul]
      rfl
    have fin := ih (x + 10000 * D) (q.set r (Q : Int)) (by omega) hD' (by rw [List.length_set]; exact hq) (hdq.set r (by omega) (by omega)) hset k n hk hn'
    rw [ref01DivMod.l0_succ, e0]
    simp (implicitDefEqProofs := false) only [iteA_eq, Int.toNat_natCast]
    rw [if_pos (by simp), if_pos (by omega), if_pos (by simp only [List.length_singleton]; omega), trim_spec _ _ ((Dg.cons (l := []) xr.1 xr.2 Dg.nil).append (R_dg (D % b))) hM (by rw [List.length_append, List.length_singleton]; omega) k (by rw [List.length_append, List.length_singleton]; omega),
      show ref01DivMod.l1 k k n (R a) (R b) (R (x + 10000 * (D % b))) (r : Int) 0 9999 q = _ from inn, ← hmod]
    exact fin
theorem rdm_ev {a b : Nat} (hb : 0 < b) (hbl : (R b).length < 900000) (hal : (R a).length < 1000000) : Ev 126 sh126 [rA a, rA b] (R (a / b), R (a % b)) := by
  obtain ⟨K, hs⟩ := unif (P := fun (m k : Nat) => (∀ F : List Int → Option Res, callT (C k 112 [(.v (.c (.int .i64 (m : Int))))]) sh112 F = F (R m)) ∧ ∀ F : List Int → Option Res, callT (C k 105 [(.v (.c (.sl (.int .i64) (R b)))), (.v (.c (.sl (.int .i64) (R m))))]) sh105 F = F (R (b * m))) 10000 (fun m hm => by
    obtain ⟨K1, h1⟩ := rsmall_spec m (by omega)
    have hl : (R m).length ≤ 1 := R_len (by omega)
    obtain ⟨K2, h2⟩ := rmul_spec b m (by omega) (by omega)
    exact ⟨K1 + K2, fun k hk => ⟨h1 k (by omega), h2 k (by omega)⟩⟩)
  refine ⟨K + (R a).length + 2 * (R b).length + 11001, fun k hk F => ?_⟩
  obtain ⟨k, rfl, hk'⟩ := succOf (k := k) (n := K + (R a).length + 2 * (R b).length + 11000) (by omega)
  have h := rdm_loop hb hbl hal hs (R a).length 0 (List.replicate (R a).length 0) (Nat.le_refl _) (by rw [List.drop_length]; rfl) (by simp) (Dg.replicate (by decide) _) (by rw [List.drop_of_length_le (by simp), Nat.zero_div]; rfl) k k hk' (by omega)
  rw [Nat.zero_mod, R_zero] at h
  rw [ref01DivMod.eq]
  simp (implicitDefEqProofs := false) only [iteA_eq, Int.toNat_natCast]
  rw [if_pos (by omega), wi (by omega) (by omega), h]
  rfl
end TryzE
end
section
set_option linter.unusedSimpArgs false
set_option linter.unusedVariables false
namespace TryzE
open Go.Eng Go.Proofs Num KD
set_option linter.unusedVariables false
/-! ## The document's texts -/
theorem val_inj {B : Int} (hB : 0 < B) : ∀ {l m : List Int}, Dg B l → Dg B m → l.length = m.length → val B l = val B m → l = m
  | [], [], _, _, _, _ => rfl
  | [], _ :: _, _, _, h, _ => by simp at h
  | _ :: _, [], _, _, h, _ => by simp at h
  | a :: l, b :: m, hl, hm, h, hv => by
    have ha := hl.head
    have hb := hm.head
    rw [val, val] at hv
    have e1 : a = b := by
      have h1 : (a + B * val B l) % B = a := by rw [Int.add_mul_emod_self_left]; exact Int.emod_eq_of_lt ha.1 ha.2
      have h2 : (b + B * val B m) % B = b := by rw [Int.add_mul_emod_self_left]; exact Int.emod_eq_of_lt hb.1 hb.2
      rw [← h1, ← h2, hv]
    subst e1
    have e2 : val B l = val B m := Int.eq_of_mul_eq_mul_left (by omega) (show B * val B l = B * val B m by omega)
    rw [val_inj hB hl.tail hm.tail (by simpa using h) e2]
theorem rprint_step (A : List Int) (i : Nat) (E : List Int) (d kk : Nat) (hk4 : kk < 4) (hd : d < 10000) (hE : E.length < 100000000) (n0 k n : Nat) :
    ref01Print.l1 k (n + 1) n0 A (bytesS (asc E).reverse) (i : Int) (d : Int) (kk : Int) = ref01Print.l1 k n n0 A (bytesS (asc (E ++ [((d % 10 : Nat) : Int)])).reverse) (i : Int) ((d / 10 : Nat) : Int) ((kk + 1 : Nat) : Int) := by
  have e1 : Go.IntKind.u8.wrap (Go.IntKind.i64.wrap ((48 : Int) + (d : Int).tmod (10 : Int))) = 48 + ((d % 10 : Nat) : Int) := by
    rw [Int.tmod_eq_emod_of_nonneg (by omega), wi (by omega) (by omega), Go.IntKind.wrap_u8]; omega
  have e2 : Go.IntKind.i64.wrap ((d : Int).tdiv (10 : Int)) = ((d / 10 : Nat) : Int) := by
    rw [Int.tdiv_eq_ediv_of_nonneg (by omega), wi (by omega) (by omega)]; omega
  have e3 : bytesS [48 + ((d % 10 : Nat) : Int)] ++ bytesS (asc E).reverse = bytesS (asc (E ++ [((d % 10 : Nat) : Int)])).reverse := by
    rw [← bytesS_append]
    unfold asc
    rw [List.map_append, List.reverse_append]
    rfl
  have hl : (asc E).reverse.length = E.length := by unfold asc; simp
  rw [ref01Print.l1_succ, e1, e2, e3]
  simp (implicitDefEqProofs := false) only [iteA_eq]
  rw [if_pos (by simp; omega), if_pos (by rw [bytesS_size, bytesS_size, hl]; simp; omega), wi (by omega) (by omega)]
  rfl
theorem rprint_in (A : List Int) (i : Nat) (E : List Int) (d : Nat) (hd : d < 10000) (hE : E.length < 10000000) (hi : i < 100000000) (n0 k n : Nat) (hn : 5 ≤ n) :
    ref01Print.l1 k n n0 A (bytesS (asc E).reverse) (i : Int) (d : Int) 0 = ref01Print.l0 k n0 A (bytesS (asc (E ++ [((d % 10 : Nat) : Int), ((d / 10 % 10 : Nat) : Int), ((d / 10 / 10 % 10 : Nat) : Int), ((d / 10 / 10 / 10 % 10 : Nat) : Int)])).reverse) ((i + 1 : Nat) : Int) := by
  obtain ⟨n, rfl⟩ : ∃ m, n = m + 1 + 1 + 1 + 1 + 1 := ⟨n - 5, by omega⟩
  have s1 := rprint_step A i E d 0 (by decide) hd (by omega) n0 k (n + 1 + 1 + 1 + 1)
  have s2 := rprint_step A i (E ++ [((d % 10 : Nat) : Int)]) (d / 10) 1 (by decide) (by omega) (by simp; omega) n0 k (n + 1 + 1 + 1)
  have s3 := rprint_step A i (E ++ [((d % 10 : Nat) : Int)] ++ [((d / 10 % 10 : Nat) : Int)]) (d / 10 / 10) 2 (by decide) (by omega) (by simp; omega) n0 k (n + 1 + 1)
  have s4 := rprint_step A i (E ++ [((d % 10 : Nat) : Int)] ++ [((d / 10 % 10 : Nat) : Int)] ++ [((d / 10 / 10 % 10 : Nat) : Int)]) (d / 10 / 10 / 10) 3 (by decide) (by omega) (by simp; omega) n0 k (n + 1)
  have s5 : ∀ s x, ref01Print.l1 k (n + 1) n0 A s (i : Int) x ((3 + 1 : Nat) : Int) = ref01Print.l0 k n0 A s ((i + 1 : Nat) : Int) := by
    intro s x
    rw [ref01Print.l1_succ]
    simp (implicitDefEqProofs := false) only [iteA_eq]
    rw [if_neg (by decide), wi (by omega) (by omega)]
    rfl
  refine s1.trans (s2.trans (s3.trans (s4.trans ((s5 _ _).trans ?_))))
  simp only [List.append_assoc, List.cons_append, List.nil_append]
theorem rprint_loop {A : List Int} (hA : Dg 10000 A) (hN : A.length < 1000000) : ∀ (r i : Nat) (E : List Int), i + r = A.length → E.length = 4 * i → Dg 10 E → val 10 E = val 10000 (A.take i) → ∀ k n, 10 ≤ k → r + 1 ≤ n →
    ∃ E' : List Int, E'.length = 4 * A.length ∧ Dg 10 E' ∧ val 10 E' = val 10000 A ∧ ref01Print.l0 k n A (bytesS (asc E).reverse) (i : Int) = ref01Print.l2 k k (bytesS (asc E').reverse) 0 := by
  intro r
  induction r with
  | zero =>
    intro i E hi hE hd hv k n hk hn
    obtain ⟨n, rfl, hn'⟩ := succOf hn
    have : i = A.length := by omega
    subst this
    rw [List.take_of_length_le (Nat.le_refl _)] at hv
    refine ⟨E, hE, hd, hv, ?_⟩
    rw [ref01Print.l0_succ]
    simp (implicitDefEqProofs := false) only [iteA_eq]
    rw [if_neg (by simp)]
  | succ r ih =>
    intro i E hi hE hd hv k n hk hn
    obtain ⟨n, rfl, hn'⟩ := succOf hn
    have xa := hA.getD (by decide) i
    obtain ⟨d, hd0⟩ : ∃ d : Nat, A.getD i 0 = d := ⟨(A.getD i 0).toNat, by omega⟩
    obtain ⟨E', r1, r2, r3, r4⟩ := ih (i + 1) (E ++ [((d % 10 : Nat) : Int), ((d / 10 % 10 : Nat) : Int), ((d / 10 / 10 % 10 : Nat) : Int), ((d / 10 / 10 / 10 % 10 : Nat) : Int)]) (by omega) (by simp; omega)
      (hd.append (Dg.cons (by omega) (by omega) (Dg.cons (by omega) (by omega) (Dg.cons (by omega) (by omega) (Dg.cons (by omega) (by omega) Dg.nil))))) (by
      rw [val_append, hv, hE, val_take_succ, hd0]
      have e : (10 : Int) ^ (4 * i) = 10000 ^ i := by rw [Int.pow_mul]; rfl
      rw [e]
      congr 1
      congr 1
      simp only [val]
      omega) k n hk hn'
    refine ⟨E', r1, r2, r3, ?_⟩
    rw [ref01Print.l0_succ]
    simp (implicitDefEqProofs := false) only [iteA_eq, Int.toNat_natCast]
    rw [if_pos (by simp; omega), if_pos (by omega), hd0, rprint_in A i E d (by omega) (by omega) (by omega) n k k (by omega)]
    exact r4
theorem sbyte_bytesS {l : List Int} {i : Nat} {x : Int} (h : l[i]? = some x) (h0 : 0 ≤ x) (h1 : x < 256) : sbyte (bytesS l) (i : Int) = x := by
  unfold sbyte bytesS
  rw [Int.toNat_natCast]
  have : ((⟨(l.map fun x => UInt8.ofNat x.toNat).toArray⟩ : ByteArray)).data.toList.getD i 0 = UInt8.ofNat x.toNat := by
    simp [List.getD_eq_getElem?_getD, List.getElem?_map, h]
  rw [this, UInt8.toNat_ofNat']
  omega
theorem bytesS_drop (l : List Int) (z : Nat) (hz : z ≤ l.length) : (bytesS l).extract z (bytesS l).size = bytesS (l.drop z) := by
  apply ByteArray.ext
  apply Array.toList_inj.1
  rw [bytesS_size]
  simp [bytesS, ByteArray.data_extract, List.map_drop, List.take_of_length_le]
theorem strip_loop (t : List Int) (x : Int) (hx0 : 0 ≤ x) (hx1 : x < 256) (hx : x ≠ 48) (Z : Nat) (hZ : Z < 100000000) (ht : t.length < 100000000) : ∀ (r z : Nat), z + r = Z → ∀ k n, r + 1 ≤ n →
    ref01Print.l2 k n (bytesS (List.replicate Z 48 ++ x :: t)) (z : Int) = some ⟨[(.v (.c (.str (bytesS (x :: t)))))], []⟩ := by
  intro r
  induction r with
  | zero =>
    intro z hz k n hn
    obtain ⟨n, rfl, hn'⟩ := succOf hn
    have : z = Z := by omega
    subst this
    have g : (List.replicate z (48 : Int) ++ x :: t)[z]? = some x := by simp
    have hs : (bytesS (List.replicate z 48 ++ x :: t)).size = z + (t.length + 1) := by rw [bytesS_size]; simp
    rw [ref01Print.l2_succ, sbyte_bytesS g hx0 hx1]
    simp (implicitDefEqProofs := false) only [iteA_eq, Int.toNat_natCast]
    rw [if_pos (by rw [hs]; omega), if_neg (by simpa using hx), if_pos (by rw [hs]; omega), bytesS_drop _ _ (by simp), List.drop_append_of_le_length (by simp), List.drop_of_length_le (by simp)]
    rfl
  | succ r ih =>
    intro z hz k n hn
    obtain ⟨n, rfl, hn'⟩ := succOf hn
    have g : (List.replicate Z (48 : Int) ++ x :: t)[z]? = some 48 := by
      rw [List.getElem?_append_left (by simp; omega), List.getElem?_replicate, if_pos (by omega)]
    have hs : (bytesS (List.replicate Z 48 ++ x :: t)).size = Z + (t.length + 1) := by rw [bytesS_size]; simp
    rw [ref01Print.l2_succ, sbyte_bytesS g (by decide) (by decide)]
    simp (implicitDefEqProofs := false) only [iteA_eq]
    rw [if_pos (by rw [hs]; omega), if_pos (by decide), wi (by omega) (by omega)]
    exact ih (z + 1) (by omega) k n hn'
theorem rprint_ev {n : Nat} (hl : (R n).length < 1000000) : Ev 71 sh71 [rA n] (dec n) := by
  refine ⟨4 * (R n).length + 100, fun k hk F => ?_⟩
  obtain ⟨k, rfl, hk'⟩ := succOf (k := k) (n := 4 * (R n).length + 99) (by omega)
  rw [ref01Print.eq]
  simp (implicitDefEqProofs := false) only [iteA_eq]
  unfold dec
  by_cases h0 : n = 0
  · subst h0
    rw [if_pos (by rfl), if_pos rfl]
    rfl
  · have hR : (R n).length ≠ 0 := fun h => h0 (R_nil.1 (List.eq_nil_of_length_eq_zero h))
    rw [if_neg (by rw [beq_iff_eq]; omega), if_neg h0]
    obtain ⟨E, r1, r2, r3, r4⟩ := rprint_loop (R_dg n) hl (R n).length 0 [] (by omega) rfl Dg.nil rfl k k (by omega) (by omega)
    rw [R_val] at r3
    have hdl : (dig 10 n).length ≤ 4 * (R n).length := dig_len_lt (by decide) (by rw [Nat.pow_mul]; exact R_lt n)
    have hE : E = dig 10 n ++ List.replicate (4 * (R n).length - (dig 10 n).length) 0 := val_inj (B := 10) (by decide) r2 ((dig_dg (by decide) n).append (Dg.replicate (by decide) _)) (by simp; omega) (by
      have hv10 : val 10 (dig 10 n) = n := dig_val (B := 10) (by decide) n
      rw [val_append, val_replicate, r3, hv10]; omega)
    have htr := dig_tr (B := 10) (by decide) n
    have hdg := dig_dg (B := 10) (by decide) n
    obtain ⟨t, x, hx⟩ : ∃ t x, dig 10 n = t ++ [x] := by
      rcases List.eq_nil_or_concat (dig 10 n) with h | ⟨t, x, h⟩
      · exact absurd ((dig_eq_nil (B := 10) (by decide)).1 h) h0
      · exact ⟨t, x, by simpa using h⟩
    have hx9 : 0 ≤ x ∧ x < 10 := hdg x (by rw [hx]; simp)
    have hx0 : x ≠ 0 := by
      unfold Tr at htr
      rw [hx] at htr
      simpa using htr
    have hs : (asc E).reverse = List.replicate (4 * (R n).length - (dig 10 n).length) 48 ++ (48 + x) :: (asc t).reverse := by
      rw [hE]
      unfold asc
      rw [List.map_append, List.reverse_append, List.map_replicate, List.reverse_replicate, hx, List.map_append, List.reverse_append]
      rfl
    have ht : txt n = bytesS ((48 + x) :: (asc t).reverse) := by
      unfold txt
      rw [hx]
      unfold asc
      rw [List.map_append, List.reverse_append]
      rfl
    have htl : t.length + 1 = (dig 10 n).length := by rw [hx]; simp
    have fin := strip_loop (asc t).reverse (48 + x) (by omega) (by omega) (by omega) (4 * (R n).length - (dig 10 n).length) (by omega) (by unfold asc; simp; omega) _ 0 (Nat.zero_add _) k k (by omega)
    rw [hs] at r4
    rw [show ref01Print.l0 k k (R n) ⟨#[]⟩ 0 = _ from r4, show ref01Print.l2 k k _ 0 = _ from fin, ht]
    rfl
end TryzE
end
section
set_option linter.unusedSimpArgs false
set_option linter.unusedVariables false
namespace TryzE
open Go.Eng Go.Proofs Num KD
set_option linter.unusedVariables false
/-! ## The document's fractions and rounding; LevelParts -/
def Zr (n : Nat) : Prop := (R n).length < 800000
theorem Zr.mono {n m : Nat} (h : Zr m) (hn : n ≤ m) : Zr n := Nat.lt_of_le_of_lt (R_mono hn) h
theorem Zr.of {n b : Nat} (h : n < 10000 ^ b) (hb : b < 800000) : Zr n := Nat.lt_of_le_of_lt (R_len h) hb
theorem R_one : R 1 = [1] := by kernel_rfl
theorem R_two : R 2 = [2] := by kernel_rfl
abbrev iL (l : List Int) : AA := .v (.c (.sl (.int .i64) l))
theorem rgcd_loop : ∀ (b a : Nat), Zr a → Zr b → ∃ K, ∀ k n, K ≤ k → K ≤ n → ref02Gcd.l0 k n (R a) (R b) = some ⟨[(.v (.c (.sl (.int .i64) (R (Nat.gcd b a)))))], []⟩ := by
  intro b
  induction b using Nat.strongRecOn with
  | _ b ih =>
    intro a ha hb
    rcases Nat.eq_zero_or_pos b with rfl | hb0
    · refine ⟨1, fun k n hk hn => ?_⟩
      obtain ⟨n, rfl, hn'⟩ := succOf (k := n) (n := 0) (by omega)
      rw [ref02Gcd.l0_succ, R_zero, iteA_eq, if_neg (by simp), Nat.gcd_zero_left]
    · have hR : (R b).length ≠ 0 := fun h => by have := R_nil.1 (List.eq_nil_of_length_eq_zero h); omega
      unfold Zr at ha hb
      obtain ⟨K1, h1⟩ := rdm_ev (a := a) hb0 (by omega) (by omega)
      obtain ⟨K2, h2⟩ := ih (a % b) (Nat.mod_lt a hb0) b hb (Zr.mono ha (Nat.mod_le a b))
      refine ⟨K1 + K2 + 1, fun k n hk hn => ?_⟩
      obtain ⟨n, rfl, hn'⟩ := succOf (k := n) (n := K1 + K2) (by omega)
      rw [ref02Gcd.l0_succ, iteA_eq, if_pos (by rw [decide_eq_true_eq]; omega)]
      refine (h1 k (by omega) _).trans ((h2 k n (by omega) (by omega)).trans ?_)
      rw [← Nat.gcd_rec]
theorem rgcd_ev {a b : Nat} (ha : Zr a) (hb : Zr b) : Ev 134 sh134 [rA a, rA b] (R (Nat.gcd b a)) := by
  obtain ⟨K, h⟩ := rgcd_loop b a ha hb
  exact Ev.of (g := fun k => ref02Gcd.l0 k k (R a) (R b)) (fun k => ref02Gcd.eq k _ _) ⟨K, fun k hk => h k k hk hk⟩ (fun F => rfl)
theorem rdm_z {a b : Nat} (hb : 0 < b) (ha : Zr a) (hbl : Zr b) : Ev 126 sh126 [rA a, rA b] (R (a / b), R (a % b)) := by
  unfold Zr at ha hbl
  exact rdm_ev hb (by omega) (by omega)
theorem zfrom_ev (n : Int) (h0 : -9223372036854775807 ≤ n) (h1 : n < 9223372036854775808) : Ev 66 sh66 [iA n] (zV n) := by
  by_cases hn : n < 0
  · have e : Go.IntKind.i64.wrap ((0 : Int) - n) = ((n.natAbs : Nat) : Int) := by rw [wi (by omega) (by omega)]; omega
    have hs : Ev 112 sh112 [iA (Go.IntKind.i64.wrap ((0 : Int) - n))] (R n.natAbs) := by rw [e]; exact rsmall_spec n.natAbs (by omega)
    exact Ev.of (fun k => ref04From.eq k _) (.pos (decide_eq_true hn) <| .call hs <| .call (zof_ev n.natAbs true n (by rw [if_pos rfl]; omega)) <| .ret _) (fun F => rfl)
  · have e : n = ((n.natAbs : Nat) : Int) := by omega
    have hs : Ev 112 sh112 [iA n] (R n.natAbs) := by
      have := rsmall_spec n.natAbs (by omega)
      rw [← e] at this
      exact this
    exact Ev.of (fun k => ref04From.eq k _) (.neg (by simpa using hn) <| .call hs <| .call (zof_ev n.natAbs false n (by rw [if_neg (by decide)]; omega)) <| .ret _) (fun F => rfl)
theorem zprint_pos {x : Int} (hx : 0 ≤ x) (s : Zr x.natAbs) : Ev 16 sh16 [zA x] (dec x.natAbs) := by
  unfold Zr at s
  exact Ev.of (fun k => ref04Print.eq k _ _) (.call (rprint_ev (by omega)) <| .neg (by rw [decide_eq_true_eq]; omega) <| .ret _) (fun F => rfl)
def zF (n : Int) (d : Nat) : List Int × (Bool × List Int) := (R n.natAbs, decide (n < 0), R d)
abbrev zfA (n : Int) (d : Nat) : AA := .v (.agg [.sl (.int .i64) (R n.natAbs), .bool (decide (n < 0)), .sl (.int .i64) (R d)])
theorem zmake_ev {n : Int} {d : Nat} (hd : 0 < d) (hn : Zr n.natAbs) (hs : Zr d) : Ev 89 sh89 [zA n, rA d] (zF (rdN n d) (rdD n d)) := by
  have hg := gcd_pos (n := n) hd
  have hgs : Zr (Nat.gcd d n.natAbs) := hs.mono (Nat.gcd_le_left _ hd)
  have e : zF (rdN n d) (rdD n d) = ((zV (rdN n d)).1, (zV (rdN n d)).2, R (d / Nat.gcd d n.natAbs)) := rfl
  rw [e]
  exact Ev.of (fun k => ref05Make.eq k _ _ _) (.call (rgcd_ev hn hs) <| .call (rdm_z hg hn hgs) <| .call (rdm_z hg hs hgs) <| .call (zof_ev _ (decide (n < 0)) (rdN n d) (by
      rw [← rdN_abs]
      have h := rdN_neg (n := n) hd
      by_cases h1 : n < 0
      · rw [decide_eq_true h1, if_pos rfl]; have := h.2 h1; omega
      · rw [decide_eq_false h1, if_neg (by decide)]; have := mt h.1 h1; omega)) <| .ret _) (fun F => rfl)
theorem zof_pos {x : Int} {m : Nat} (hm : 0 < m) (hx : Zr x.natAbs) (hs : Zr m) : Ev 79 sh79 [zA x, zA (m : Int)] (zF (rdN x m) (rdD x m)) := by
  have h := zmake_ev (n := x) hm hx hs
  exact Ev.of (fun k => ref05Of.eq k _ _ _ _) (.neg (by rw [decide_eq_true_eq]; omega) <| .call h <| .ret _) (fun F => rfl)
theorem rwhole_z {n : Int} {d : Nat} {m : Int} (hm : 0 ≤ m ∧ m < 5) (hd : 0 < d) (sn : Zr n.natAbs) (sd : Zr d) (sd2 : Zr (2 * d)) (sn2 : Zr (n.natAbs + 1)) : Ev 69 sh69 [zfA n d, iA m] (zV (sgd n (rndN m n.natAbs d))) := by
  have hq : n.natAbs / d ≤ n.natAbs := Nat.div_le_self _ _
  have hr := Nat.mod_lt n.natAbs hd
  have hdm := rdm_z hd sn sd
  have fin : ∀ b : Bool, b = decide (n.natAbs % d ≠ 0 ∧ more m (n.natAbs / d) (n.natAbs % d) d = true) → Et (fun k => ref06Whole.j18 k (R (n.natAbs / d)) (R (n.natAbs / d + 1)) b (R n.natAbs) (decide (n < 0)) (R d) false) ⟨[(.v (.agg [.sl (.int .i64) (zV (sgd n (rndN m n.natAbs d))).1, .bool (zV (sgd n (rndN m n.natAbs d))).2]))], []⟩ := by
    intro b hb
    have sg : ∀ q : Nat, sgd n q = if decide (n < 0) = true then -(q : Int) else q := by
      intro q; unfold sgd
      by_cases h : n < 0
      · rw [decide_eq_true h, if_pos rfl, if_pos h]
      · rw [decide_eq_false h, if_neg h, if_neg (by decide)]
    refine .to (fun k => ref06Whole.j18_eq k _ _ _ _ _ _ _) ?_
    cases b with
    | true =>
      have h : n.natAbs % d ≠ 0 ∧ more m (n.natAbs / d) (n.natAbs % d) d = true := of_decide_eq_true hb.symm
      have e : rndN m n.natAbs d = n.natAbs / d + 1 := by unfold rndN; rw [if_pos h]
      rw [e]
      exact .pos rfl <| .call (zof_ev _ _ _ (sg _)) <| .ret _
    | false =>
      have h : ¬ (n.natAbs % d ≠ 0 ∧ more m (n.natAbs / d) (n.natAbs % d) d = true) := of_decide_eq_false hb.symm
      have e : rndN m n.natAbs d = n.natAbs / d := by unfold rndN; rw [if_neg h]
      rw [e]
      exact .neg Bool.false_ne_true <| .call (zof_ev _ _ _ (sg _)) <| .ret _
  have a1 : Ev 113 sh113 [rA (n.natAbs / d), iL [1]] (R (n.natAbs / d + 1)) := by
    have := sn.mono hq
    unfold Zr at this
    have h := radd_spec (n.natAbs / d) 1 (by omega) (by rw [R_one]; decide)
    rw [R_one] at h
    exact h
  have a2 : Ev 105 sh105 [rA (n.natAbs % d), iL [2]] (R (n.natAbs % d * 2)) := by
    have := sd.mono (Nat.le_of_lt hr)
    unfold Zr at this
    have h := rmul_spec (n.natAbs % d) 2 (by omega) (by rw [R_two]; decide)
    rw [R_two] at h
    exact h
  have a3 : Ev 127 sh127 [rA (n.natAbs % d * 2), rA d] (sgn (n.natAbs % d * 2) d) := by
    have := sd2.mono (show n.natAbs % d * 2 ≤ 2 * d by omega)
    unfold Zr at this sd
    exact ⟨_, rcmp_spec (n.natAbs % d * 2) d (by omega) (by omega)⟩
  have a4 : Ev 126 sh126 [rA (n.natAbs / d), iL [2]] (R (n.natAbs / d / 2), R (n.natAbs / d % 2)) := by
    have h := rdm_z (a := n.natAbs / d) (b := 2) (by decide) (sn.mono hq) (by unfold Zr; rw [R_two]; decide)
    rw [show rA 2 = iL [2] from congrArg iL R_two] at h
    exact h
  generalize n.natAbs / d = q at *
  generalize n.natAbs % d = r at *
  have hge : decide (sgn (r * 2) d ≥ 0) = decide (d ≤ r + r) := by
    unfold sgn; by_cases h : r * 2 < d
    · rw [if_pos h, decide_eq_false (show ¬ d ≤ r + r by omega)]; rfl
    · rw [if_neg h, decide_eq_true (show d ≤ r + r by omega)]; split <;> rfl
  have hgt : decide (sgn (r * 2) d > 0) = decide (d < r + r) := by
    unfold sgn; by_cases h : r * 2 < d
    · rw [if_pos h, decide_eq_false (show ¬ d < r + r by omega)]; rfl
    · rw [if_neg h]
      by_cases h' : d < r * 2
      · rw [if_pos h', decide_eq_true (show d < r + r by omega)]; rfl
      · rw [if_neg h', decide_eq_false (show ¬ d < r + r by omega)]; rfl
  by_cases h0 : r = 0
  · subst h0
    exact Ev.of (fun k => ref06Whole.eq k _ _ _ _) (.call hdm <| .call a1 <| .call a2 <| .call a3 <| .call a4 <| .neg (by rw [decide_eq_true_eq]; show ¬ (((R 0).length : Int) > 0); rw [R_zero]; decide) <| fin false (by simp)) (fun F => rfl)
  · have hRr : (R r).length ≠ 0 := fun h => h0 (R_nil.1 (List.eq_nil_of_length_eq_zero h))
    have step : ∀ g : Nat → Option Res, ∀ up : Bool, Et (fun k => ref06Whole.j12 k m (R q) (R (q + 1)) (sgn (r * 2) d) (R (q % 2)) (decide (m = 1)) (R n.natAbs) (decide (n < 0)) (R d) false) ⟨[(.v (.agg [.sl (.int .i64) (zV (sgd n (rndN m n.natAbs d))).1, .bool (zV (sgd n (rndN m n.natAbs d))).2]))], []⟩ := by
      intro _ _
      refine .to (fun k => ref06Whole.j12_eq k _ _ _ _ _ _ _ _ _ _) ?_
      by_cases m2 : m = 2
      · subst m2
        refine .pos rfl <| .to (fun k => ref06Whole.j14_eq k _ _ _ _ _ _ _ _ _ _) <| .neg (by decide) <| .to (fun k => ref06Whole.j16_eq k _ _ _ _ _ _ _ _ _ _) <| .neg (by decide) <| fin _ ?_
        rw [hge]; refine decide_eq_decide.2 ⟨fun h => ⟨h0, ?_⟩, fun h => ?_⟩
        · unfold more; rw [if_neg (by decide), if_pos rfl]; exact decide_eq_true h
        · have h := h.2; unfold more at h; rw [if_neg (by decide), if_pos rfl] at h; exact of_decide_eq_true h
      refine .neg (by rw [beq_iff_eq]; exact m2) <| .to (fun k => ref06Whole.j14_eq k _ _ _ _ _ _ _ _ _ _) ?_
      by_cases m3 : m = 3
      · subst m3
        refine .pos rfl <| .to (fun k => ref06Whole.j16_eq k _ _ _ _ _ _ _ _ _ _) <| .neg (by decide) <| fin _ ?_
        rw [hgt]; refine decide_eq_decide.2 ⟨fun h => ⟨h0, ?_⟩, fun h => ?_⟩
        · unfold more; rw [if_neg (by decide), if_neg (by decide), if_pos rfl]; exact decide_eq_true h
        · have h := h.2; unfold more at h; rw [if_neg (by decide), if_neg (by decide), if_pos rfl] at h; exact of_decide_eq_true h
      refine .neg (by rw [beq_iff_eq]; exact m3) <| .to (fun k => ref06Whole.j16_eq k _ _ _ _ _ _ _ _ _ _) ?_
      by_cases m4 : m = 4
      · subst m4
        have hmo : (more 4 q r d = true) ↔ (d < r + r ∨ d = r + r ∧ q % 2 = 1) := by
          unfold more; rw [if_neg (by decide), if_neg (by decide), if_neg (by decide), if_pos rfl, decide_eq_true_eq]
        by_cases c1 : d < r + r
        · exact .pos rfl <| .neg (by rw [hgt, decide_eq_true c1]; decide) <| fin true (by rw [decide_eq_true (show r ≠ 0 ∧ more 4 q r d = true from ⟨h0, hmo.2 (.inl c1)⟩)])
        · by_cases c2 : d = r + r
          · refine .pos rfl <| .pos (by rw [hgt, decide_eq_false c1]) <| .pos (by unfold sgn; rw [if_neg (by omega), if_neg (by omega)]; rfl) <| fin _ ?_
            refine decide_eq_decide.2 ⟨fun h => ⟨h0, hmo.2 (.inr ⟨c2, ?_⟩)⟩, fun h => ?_⟩
            · have h5 : (R (q % 2)).length ≠ 0 := by omega
              have : q % 2 ≠ 0 := fun h6 => h5 (by rw [h6]; rfl)
              omega
            · have h5 : q % 2 = 1 := by rcases hmo.1 h.2 with h6 | h6 <;> omega
              rw [h5, R_one]; decide
          · refine .pos rfl <| .pos (by rw [hgt, decide_eq_false c1]) <| .neg (by unfold sgn; rw [if_pos (by omega)]; decide) <| fin false ?_
            rw [decide_eq_false (show ¬ (r ≠ 0 ∧ more 4 q r d = true) from fun h => by rcases hmo.1 h.2 with h6 | h6 <;> omega)]
      refine .neg (by rw [beq_iff_eq]; exact m4) <| fin _ ?_
      refine decide_eq_decide.2 ⟨fun h => ⟨h0, ?_⟩, fun h => ?_⟩
      · unfold more; rw [if_pos h]
      · have h := h.2; unfold more at h
        by_cases m1 : m = 1
        · exact m1
        · rw [if_neg m1, if_neg m2, if_neg m3, if_neg m4] at h; cases h
    have st := step (fun _ => none) true
    by_cases m1 : m = 1
    · rw [decide_eq_true m1] at st
      exact Ev.of (fun k => ref06Whole.eq k _ _ _ _) (.call hdm <| .call a1 <| .call a2 <| .call a3 <| .call a4 <| .pos (by rw [decide_eq_true_eq]; show ((R r).length : Int) > 0; omega) <| .pos (by rw [beq_iff_eq]; exact m1) <| st) (fun F => rfl)
    · rw [decide_eq_false m1] at st
      exact Ev.of (fun k => ref06Whole.eq k _ _ _ _) (.call hdm <| .call a1 <| .call a2 <| .call a3 <| .call a4 <| .pos (by rw [decide_eq_true_eq]; show ((R r).length : Int) > 0; omega) <| .neg (by rw [beq_iff_eq]; exact m1) <| st) (fun F => rfl)
end TryzE
end
section
set_option linter.unusedSimpArgs false
set_option linter.unusedVariables false
namespace TryzE
open Go.Eng Go.Proofs Num KD
set_option linter.unusedVariables false
/-! ## LevelParts -/
/-- What each instalment has, and the error. -/
def ptV (x n m : Int) : Nat × Int := if x < 0 then (0, 19) else if n < 1 ∨ 1200 < n then (0, 2) else if m < 0 ∨ 4 < m then (0, 2) else (rndN m x.natAbs n.toNat, 0)
theorem ptV_le (x n m : Int) : (ptV x n m).1 ≤ x.natAbs + 1 := by
  unfold ptV
  split
  · exact Nat.zero_le _
  · split
    · exact Nat.zero_le _
    · split
      · exact Nat.zero_le _
      · have := Nat.div_le_self x.natAbs n.toNat
        show rndN m x.natAbs n.toNat ≤ _
        unfold rndN; split <;> omega
theorem part_all (x n m : Int) (sx : Sz x.natAbs) : Ev 22 sh22 [wA x, iA n, iA m] (wV ((ptV x n m).1 : Int), (ptV x n m).2) := by
  unfold ptV
  by_cases hx : x < 0
  · rw [if_pos hx]
    exact Ev.of (fun k => levelPart.eq k _ _ _ _) (.call (wsign_ev x) <| .pos (by rw [sgZ_neg, decide_eq_true hx]) <| .ret _) (fun F => rfl)
  rw [if_neg hx]
  have g : decide (sgZ x < 0) = false := by rw [sgZ_neg, decide_eq_false hx]
  by_cases hn : n < 1 ∨ 1200 < n
  · rw [if_pos hn]
    by_cases h1 : n < 1
    · exact Ev.of (fun k => levelPart.eq k _ _ _ _) (.call (wsign_ev x) <| .neg (by rw [g]; exact Bool.false_ne_true) <| .neg (by rw [decide_eq_true h1]; decide) <| .ret _) (fun F => rfl)
    · exact Ev.of (fun k => levelPart.eq k _ _ _ _) (.call (wsign_ev x) <| .neg (by rw [g]; exact Bool.false_ne_true) <| .pos (by rw [decide_eq_false h1]) <| .pos (by rw [decide_eq_true_eq]; omega) <| .ret _) (fun F => rfl)
  rw [if_neg hn]
  obtain ⟨n, rfl⟩ : ∃ N : Nat, n = N := ⟨n.toNat, by omega⟩
  have s16 : S0 n := s0i (b := 16) (Nat.lt_of_le_of_lt (show n ≤ 1200 by omega) (by decide)) (by decide)
  by_cases hm : m < 0 ∨ 4 < m
  · rw [if_pos hm]
    have r := rwhole_bad (n := rdN x n) (d := rdD x n) (m := m) (by omega)
    exact Ev.of (fun k => levelPart.eq k _ _ _ _) (.call (wsign_ev x) <| .neg (by rw [g]; exact Bool.false_ne_true) <| .pos (by rw [decide_eq_false (by omega)]) <| .neg (by rw [decide_eq_true_eq]; omega) <|
      .to (fun k => levelPart.j5_eq k _ _ _ _ _) <| .call (wfrom_ev n (by omega) (by omega)) <| .call (fof_pos (m := n) (by omega) sx s16.sz) <| .call r <| .ret _) (fun F => rfl)
  · rw [if_neg hm, Int.toNat_natCast]
    exact part_ev (by omega) sx (by omega) (by omega) (by omega)
theorem zpart_all (x n m : Int) (sx : Zr (x.natAbs + 1)) : Ev 23 sh23 [zA x, iA n, iA m] (zV ((ptV x n m).1 : Int), (ptV x n m).2) := by
  have z0 := zfrom_ev 0 (by decide) (by decide)
  unfold ptV
  by_cases hx : x < 0
  · rw [if_pos hx]
    exact Ev.of (fun k => ref16Part.eq k _ _ _ _) (.call z0 <| .pos (decide_eq_true hx) <| .ret _) (fun F => rfl)
  rw [if_neg hx]
  have g : ¬ decide (x < 0) = true := by rw [decide_eq_true_eq]; exact hx
  by_cases hn : n < 1 ∨ 1200 < n
  · rw [if_pos hn]
    by_cases h1 : n < 1
    · exact Ev.of (fun k => ref16Part.eq k _ _ _ _) (.call z0 <| .neg g <| .neg (by rw [decide_eq_true h1]; decide) <| .ret _) (fun F => rfl)
    · exact Ev.of (fun k => ref16Part.eq k _ _ _ _) (.call z0 <| .neg g <| .pos (by rw [decide_eq_false h1]) <| .neg (by rw [decide_eq_true (show n > 1200 by omega)]; decide) <| .ret _) (fun F => rfl)
  rw [if_neg hn]
  have n1 : decide (n < 1) = false := decide_eq_false (by omega)
  have n2 : decide (n > 1200) = false := decide_eq_false (by omega)
  by_cases hm : m < 0 ∨ 4 < m
  · rw [if_pos hm]
    by_cases h1 : m < 0
    · exact Ev.of (fun k => ref16Part.eq k _ _ _ _) (.call z0 <| .neg g <| .pos n1 <| .pos n2 <| .neg (by rw [decide_eq_true h1]; decide) <| .ret _) (fun F => rfl)
    · exact Ev.of (fun k => ref16Part.eq k _ _ _ _) (.call z0 <| .neg g <| .pos n1 <| .pos n2 <| .pos (decide_eq_false h1) <| .pos (by rw [decide_eq_true_eq]; omega) <| .ret _) (fun F => rfl)
  rw [if_neg hm]
  obtain ⟨n, rfl⟩ : ∃ N : Nat, n = N := ⟨n.toNat, by omega⟩
  rw [Int.toNat_natCast]
  have hn0 : 0 < n := by omega
  have zn : Zr (2 * n) := Zr.of (b := 1) (by omega) (by decide)
  have r := rwhole_z (n := rdN x n) (d := rdD x n) (m := m) (by omega) (rdD_pos hn0) (sx.mono (Nat.le_succ_of_le (rdN_le x n))) (zn.mono (by have := rdD_le x n; omega)) (zn.mono (by have := rdD_le x n; omega)) (sx.mono (by have := rdN_le x n; omega))
  rw [rndN_rd hn0, sgd_rd hn0, show sgd x (rndN m x.natAbs n) = (rndN m x.natAbs n : Nat) by unfold sgd; rw [if_neg hx]] at r
  exact Ev.of (fun k => ref16Part.eq k _ _ _ _) (.call z0 <| .neg g <| .pos n1 <| .pos n2 <| .pos (decide_eq_false (by omega)) <| .neg (by rw [decide_eq_true_eq]; omega) <|
    .to (fun k => ref16Part.j6_eq k _ _ _ _ _) <| .call (zfrom_ev n (by omega) (by omega)) <| .call (zof_pos (m := n) hn0 (sx.mono (Nat.le_succ _)) (zn.mono (by omega))) <| .call r <| .ret _) (fun F => rfl)
theorem beq_self_neg (s : ByteArray) : ¬ ((!s.toList == s.toList) = true) := by simp
theorem parts_step {x : Int} (hx : x.natAbs < 18446744073709551616 ^ 3) (nn m i : Int) (j : Nat) (hj : j < 2) (a : List Int) (b : Bool) (t : ByteArray) (e f g : Int) (ns ms : List Int) (hms : ms.length = 2) (hm : ms.getD j 0 = m) :
    ∃ K, ∀ k, K ≤ k → ∀ n n0, law16LevelParts.l1 k (n + 1) n0 nn 2 i 2 (j : Int) a b t e f g (wV x).1 (wV x).2 (zV x).1 (zV x).2 ns ms = law16LevelParts.l1 k n n0 nn 2 i 2 ((j + 1 : Nat) : Int) a b t e f g (wV x).1 (wV x).2 (zV x).1 (zV x).2 ns ms := by
  have hb2 : x.natAbs < 2 ^ 192 := hx
  have sx : S0 (x.natAbs + 1) := s0i (b := 193) (by omega) (by decide)
  have hp := ptV_le x nn m
  have hz : Zr (x.natAbs + 1) := Zr.of (b := 16) (by omega) (by decide)
  obtain ⟨K1, h1⟩ := part_all x nn m (sx.mono (Nat.le_succ _)).sz
  obtain ⟨K2, h2⟩ := zpart_all x nn m hz
  obtain ⟨K3, h3⟩ := wprint_pos (x := ((ptV x nn m).1 : Int)) (by omega) ((sx.mono (by rw [Int.natAbs_natCast]; exact hp)).sz)
  obtain ⟨K4, h4⟩ := zprint_pos (x := ((ptV x nn m).1 : Int)) (by omega) (hz.mono (by rw [Int.natAbs_natCast]; exact hp))
  refine ⟨K1 + K2 + K3 + K4, fun k hk n n0 => ?_⟩
  refine (law16LevelParts.l1_succ k n n0 nn 2 i 2 (j : Int) a b t e f g (wV x).1 (wV x).2 (zV x).1 (zV x).2 ns ms).trans ?_
  rw [Int.toNat_natCast, hm]
  rw [iteA_eq, if_pos (by rw [decide_eq_true_eq]; omega), iteA_eq, if_pos (by omega)]
  refine (h1 k (by omega) _).trans ((h2 k (by omega) _).trans ?_)
  rw [iteA_eq, if_pos (by simp)]
  refine (h3 k (by omega) _).trans ((h4 k (by omega) _).trans ?_)
  rw [iteA_eq, if_neg (beq_self_neg _), wi (by omega) (by omega)]
  rfl
theorem parts_in {x : Int} (hx : x.natAbs < 18446744073709551616 ^ 3) (nn i : Int) (hi : 0 ≤ i ∧ i < 2) (a : List Int) (b : Bool) (t : ByteArray) (e f g : Int) (ns ms : List Int) (hms : ms.length = 2) :
    ∃ K, ∀ k, K ≤ k → ∀ n n0, law16LevelParts.l1 k (n + 3) n0 nn 2 i 2 0 a b t e f g (wV x).1 (wV x).2 (zV x).1 (zV x).2 ns ms = law16LevelParts.l0 k n0 2 (i + 1) a b t e f g (wV x).1 (wV x).2 (zV x).1 (zV x).2 ns := by
  obtain ⟨K1, h1⟩ := parts_step hx nn _ i 0 (by decide) a b t e f g ns ms hms rfl
  obtain ⟨K2, h2⟩ := parts_step hx nn _ i 1 (by decide) a b t e f g ns ms hms rfl
  refine ⟨K1 + K2, fun k hk n n0 => ?_⟩
  refine (h1 k (by omega) (n + 2) n0).trans ((h2 k (by omega) (n + 1) n0).trans ?_)
  refine (law16LevelParts.l1_succ k n n0 nn 2 i 2 ((1 + 1 : Nat) : Int) a b t e f g _ _ _ _ ns ms).trans ?_
  rw [iteA_eq, if_neg (by decide), wi (by omega) (by omega)]
theorem parts_out {x : Int} (hx : x.natAbs < 18446744073709551616 ^ 3) (i : Nat) (hi : i < 2) (a : List Int) (b : Bool) (t : ByteArray) (e f g : Int) (ns : List Int) (hns : ns.length = 2) :
    ∃ K, ∀ k, K ≤ k → ∀ n, law16LevelParts.l0 k (n + 1) 2 (i : Int) a b t e f g (wV x).1 (wV x).2 (zV x).1 (zV x).2 ns = law16LevelParts.l0 k n 2 ((i + 1 : Nat) : Int) a b t e f g (wV x).1 (wV x).2 (zV x).1 (zV x).2 ns := by
  obtain ⟨K, h⟩ := parts_in hx (ns.getD i 0) (i : Int) (by omega) a b t e f g ns [g, (Go.Eng.maxI (0 : Int) g).tmod (5 : Int)] rfl
  refine ⟨K + 3, fun k hk n => ?_⟩
  refine (law16LevelParts.l0_succ k n 2 (i : Int) a b t e f g _ _ _ _ ns).trans ?_
  rw [iteA_eq, if_pos (by rw [decide_eq_true_eq]; omega), iteA_eq, if_pos (by omega), Int.toNat_natCast]
  have h0 := h k (by omega) (k - 3) n
  rw [show k - 3 + 3 = k by omega] at h0
  exact h0
theorem levelParts_true (l : List Int) (b : Bool) (t : ByteArray) (x y z : Int) (h : Dg (18446744073709551616 : Int) l) : ∃ k, C k 4 [.v (.agg [.sl (.int .u64) l, .bool b, .str t, .int .i64 x, .int .i64 y, .int .i64 z])] = some ⟨[(.v (.c (.bool true)))], []⟩ := by
  have ha := amt_lt l b h
  refine Ct.of (fun k => law16LevelParts.eq k _ _ _ _ _ _) (.call (amount_ev b t x y z h) ?_)
  obtain ⟨K1, h1⟩ := parts_out ha 0 (by decide) l b t x y z [y, Go.IntKind.i64.wrap ((1 : Int) + (Go.Eng.maxI (0 : Int) y).tmod (1200 : Int))] rfl
  obtain ⟨K2, h2⟩ := parts_out ha 1 (by decide) l b t x y z [y, Go.IntKind.i64.wrap ((1 : Int) + (Go.Eng.maxI (0 : Int) y).tmod (1200 : Int))] rfl
  obtain ⟨K3, h3⟩ := wakes16_ev
  refine ⟨K1 + K2 + K3 + 3, fun k hk => ?_⟩
  obtain ⟨m, rfl⟩ : ∃ m, k = m + 1 + 1 + 1 := ⟨k - 3, by omega⟩
  refine (h1 _ (by omega) (m + 1 + 1)).trans ((h2 _ (by omega) (m + 1)).trans ?_)
  refine (law16LevelParts.l0_succ _ m 2 ((1 + 1 : Nat) : Int) l b t x y z _ _ _ _ _).trans ?_
  rw [iteA_eq, if_neg (by decide)]
  exact h3 _ (by omega) _
end TryzE
end
