/- Whole numbers, fractions, rounding, decimals, rates and level payments; the law holds of every input. -/
import Derived.Test.YtjkfpbfimcpoeaaGreatDoorPlnB
section
set_option linter.unusedSimpArgs false
set_option linter.unusedVariables false
namespace TryzE
open Go.Eng Go.Proofs Num KD
set_option linter.unusedVariables false
/-! ## Whole numbers -/
def wV (x : Int) : List Int × Bool := (L x.natAbs, decide (x < 0))
abbrev wA (x : Int) : AA := .v (.agg [.sl (.int .u64) (L x.natAbs), .bool (decide (x < 0))])
abbrev bA (b : Bool) : AA := .v (.c (.bool b))
abbrev iA (n : Int) : AA := .v (.c (.int .i64 n))
def sgZ (x : Int) : Int := if x = 0 then 0 else if x < 0 then -1 else 1
theorem wV_pos {x : Int} (h : 0 ≤ x) : wV x = (L x.natAbs, false) := by
  unfold wV; rw [decide_eq_false (by omega)]
theorem wV_neg {x : Int} (h : x < 0) : wV x = (L x.natAbs, true) := by
  unfold wV; rw [decide_eq_true h]
theorem wof_ev (n : Nat) (b : Bool) (x : Int) (hx : x = if b = true then -(n : Int) else n) : Ev 60 sh60 [nA n, bA b] (wV x) := by
  cases b with
  | false =>
    rw [if_neg (by decide)] at hx
    subst hx
    rw [wV_pos (by omega), Int.natAbs_natCast]
    exact Ev.of (fun k => wholeOf.eq k _ _) (.neg (by decide) (.ret _)) (fun F => rfl)
  | true =>
    rw [if_pos rfl] at hx
    have e : wV x = (L n, !decide (n = 0)) := by
      unfold wV
      rw [hx, Int.natAbs_neg, Int.natAbs_natCast]
      congr 1
      by_cases h : n = 0
      · subst h; rfl
      · rw [decide_eq_true (by omega), decide_eq_false h]; rfl
    rw [e]
    exact Ev.of (fun k => wholeOf.eq k _ _) (.pos rfl (.call (zero_ev n) (.ret _))) (fun F => rfl)
theorem of1_ev' {z : Int} (n : Nat) (hz : z = n) (hn : n < 18446744073709551616) : Ev 61 sh61 [.v (.c (.sl (.int .u64) [z]))] (L n) := hz ▸ of1_ev n hn
theorem wfrom_ev (n : Int) (h0 : -9223372036854775808 ≤ n) (h1 : n < 9223372036854775808) : Ev 26 sh26 [iA n] (wV n) := by
  by_cases hn : n < 0
  · have e : Go.IntKind.u64.wrap ((0 : Int) - Go.IntKind.u64.wrap n) = (n.natAbs : Int) := by rw [wu, wu]; omega
    exact Ev.of (fun k => wholeFrom.eq k _) (.pos (decide_eq_true hn) (.call (of1_ev' n.natAbs e (by omega)) (.call (wof_ev n.natAbs true n (by rw [if_pos rfl]; omega)) (.ret _)))) (fun F => rfl)
  · have e : Go.IntKind.u64.wrap n = (n.natAbs : Int) := by rw [wu]; omega
    exact Ev.of (fun k => wholeFrom.eq k _) (.neg (by simpa using hn) (.call (of1_ev' n.natAbs e (by omega)) (.call (wof_ev n.natAbs false n (by rw [if_neg (by decide)]; omega)) (.ret _)))) (fun F => rfl)
theorem wabs_ev (x : Int) : Ev 115 sh115 [wA x] (L x.natAbs) :=
  Ev.of (fun k => wholeIntAbs.eq k _ _) (.ret _) (fun F => rfl)
theorem wsign_ev (x : Int) : Ev 24 sh24 [wA x] (sgZ x) := by
  unfold sgZ
  by_cases h : x = 0
  · rw [if_pos h]
    exact Ev.of (fun k => wholeIntSign.eq k _ _) (.call (zero_ev x.natAbs) (.pos (by simp; omega) (.ret _))) (fun F => rfl)
  · rw [if_neg h]
    by_cases h1 : x < 0
    · rw [if_pos h1]
      exact Ev.of (fun k => wholeIntSign.eq k _ _) (.call (zero_ev x.natAbs) (.neg (by simp; omega) (.pos (by simpa using h1) (.ret _)))) (fun F => rfl)
    · rw [if_neg h1]
      exact Ev.of (fun k => wholeIntSign.eq k _ _) (.call (zero_ev x.natAbs) (.neg (by simp; omega) (.neg (by simpa using h1) (.ret _)))) (fun F => rfl)
theorem wneg_ev (x : Int) : Ev 25 sh25 [wA x] (wV (-x)) :=
  Ev.of (fun k => wholeIntNeg.eq k _ _) (.call (wof_ev x.natAbs (!decide (x < 0)) (-x) (by
    by_cases h : x < 0
    · rw [decide_eq_true h, if_neg (by decide)]; omega
    · rw [decide_eq_false h, if_pos (by rfl)]; omega)) (.ret _)) (fun F => rfl)
theorem wadd_ev {x y : Int} (hx : Sz x.natAbs) (hy : Sz y.natAbs) : Ev 84 sh84 [wA x, wA y] (wV (x + y)) := by
  by_cases hs : (decide (x < 0) == decide (y < 0)) = true
  · have hs' : (x < 0) = (y < 0) := by simpa using hs
    exact Ev.of (fun k => wholeIntAdd.eq k _ _ _ _) (.pos hs (.call (add_ev hx hy) (.call (wof_ev _ (decide (x < 0)) (x + y) (by
      by_cases h : x < 0
      · have h' : y < 0 := hs' ▸ h
        rw [decide_eq_true h, if_pos rfl]; omega
      · have h' : ¬ y < 0 := hs' ▸ h
        rw [decide_eq_false h, if_neg (by decide)]; omega)) (.ret _)))) (fun F => rfl)
  · have hs' : ¬ (x < 0 ↔ y < 0) := by simpa using hs
    by_cases hl : y.natAbs ≤ x.natAbs
    · exact Ev.of (fun k => wholeIntAdd.eq k _ _ _ _) (.neg hs (.call (nsub_ev hx hl) (.pos rfl (.call (wof_ev _ (decide (x < 0)) (x + y) (by
        by_cases h : x < 0
        · rw [decide_eq_true h, if_pos rfl]; omega
        · rw [decide_eq_false h, if_neg (by decide)]; omega)) (.ret _))))) (fun F => rfl)
    · exact Ev.of (fun k => wholeIntAdd.eq k _ _ _ _) (.neg hs (.call (nsub_less hx hy (by omega)) (.neg (by decide) (.call (nsub_ev hy (by omega)) (.call (wof_ev _ (decide (y < 0)) (x + y) (by
        by_cases h : y < 0
        · rw [decide_eq_true h, if_pos rfl]; omega
        · rw [decide_eq_false h, if_neg (by decide)]; omega)) (.ret _)))))) (fun F => rfl)
theorem wsub_ev {x y : Int} (hx : Sz x.natAbs) (hy : Sz y.natAbs) : Ev 81 sh81 [wA x, wA y] (wV (x - y)) :=
  Ev.of (fun k => wholeIntSub.eq k _ _ _ _) (.call (wneg_ev y) (.call (wadd_ev (y := -y) hx (by rw [Int.natAbs_neg]; exact hy)) (.ret _))) (fun F => rfl)
theorem wcmp_ev {x y : Int} (hx : Sz x.natAbs) (hy : Sz y.natAbs) : Ev 28 sh28 [wA x, wA y] (sgZ (x - y)) :=
  Ev.of (fun k => wholeIntCmp.eq k _ _ _ _) (.call (wsub_ev hx hy) (.call (wsign_ev (x - y)) (.ret _))) (fun F => rfl)
theorem wmul_ev {x y : Int} (hx : Sz x.natAbs) (hy : Sz y.natAbs) : Ev 27 sh27 [wA x, wA y] (wV (x * y)) :=
  Ev.of (fun k => wholeIntMul.eq k _ _ _ _) (.call (mul_ev hx hy) (.call (wof_ev _ (!decide (x < 0) == decide (y < 0)) (x * y) (by
    have e := Int.natAbs_mul x y
    rw [← e]
    by_cases h : x < 0
    · by_cases h' : y < 0
      · have := Int.mul_pos_of_neg_of_neg h h'
        rw [decide_eq_true h, decide_eq_true h', if_neg (by decide)]; omega
      · have := Int.mul_nonneg (a := -x) (b := y) (by omega) (by omega)
        rw [Int.neg_mul] at this
        rw [decide_eq_true h, decide_eq_false h', if_pos (by rfl)]; omega
    · by_cases h' : y < 0
      · have := Int.mul_nonneg (a := x) (b := -y) (by omega) (by omega)
        rw [Int.mul_neg] at this
        rw [decide_eq_false h, decide_eq_true h', if_pos (by rfl)]; omega
      · have := Int.mul_nonneg (a := x) (b := y) (by omega) (by omega)
        rw [decide_eq_false h, decide_eq_false h', if_neg (by decide)]; omega)) (.ret _))) (fun F => rfl)
end TryzE
end
section
set_option linter.unusedSimpArgs false
set_option linter.unusedVariables false
namespace TryzE
open Go.Eng Go.Proofs Num KD
set_option linter.unusedVariables false
/-! ## Fractions -/
def fV (n : Int) (d : Nat) : List Int × (Bool × List Int) := (L n.natAbs, decide (n < 0), L (d - 1))
abbrev fA (n : Int) (d : Nat) : AA := .v (.agg [.sl (.int .u64) (L n.natAbs), .bool (decide (n < 0)), .sl (.int .u64) (L (d - 1))])
def rdN (n : Int) (d : Nat) : Int := n / (Nat.gcd d n.natAbs : Int)
def rdD (n : Int) (d : Nat) : Nat := d / Nat.gcd d n.natAbs
theorem gcd_pos {n : Int} {d : Nat} (hd : 0 < d) : 0 < Nat.gcd d n.natAbs := Nat.gcd_pos_of_pos_left _ hd
theorem rdD_pos {n : Int} {d : Nat} (hd : 0 < d) : 0 < rdD n d := Nat.div_pos (Nat.gcd_le_left _ hd) (gcd_pos hd)
theorem rdD_le (n : Int) (d : Nat) : rdD n d ≤ d := Nat.div_le_self _ _
theorem rdN_abs (n : Int) (d : Nat) : (rdN n d).natAbs = n.natAbs / Nat.gcd d n.natAbs := by
  unfold rdN
  have h : (Nat.gcd d n.natAbs : Int) ∣ n := Int.ofNat_dvd_left.2 (Nat.gcd_dvd_right _ _)
  rw [Int.natAbs_ediv_of_dvd h, Int.natAbs_natCast]
theorem rdN_le (n : Int) (d : Nat) : (rdN n d).natAbs ≤ n.natAbs := by rw [rdN_abs]; exact Nat.div_le_self _ _
theorem rdN_mul (n : Int) (d : Nat) : (Nat.gcd d n.natAbs : Int) * rdN n d = n := Int.mul_ediv_cancel' (Int.ofNat_dvd_left.2 (Nat.gcd_dvd_right _ _))
theorem rdD_mul (n : Int) (d : Nat) : Nat.gcd d n.natAbs * rdD n d = d := Nat.mul_div_cancel' (Nat.gcd_dvd_left _ _)
theorem rdN_neg {n : Int} {d : Nat} (hd : 0 < d) : rdN n d < 0 ↔ n < 0 := by
  have h := rdN_mul n d
  have hg : (0 : Int) < (Nat.gcd d n.natAbs : Int) := by exact_mod_cast gcd_pos hd
  generalize rdN n d = m at *
  generalize (Nat.gcd d n.natAbs : Int) = g at *
  constructor
  · intro hm
    have := Int.mul_neg_of_pos_of_neg hg hm
    omega
  · intro hn
    rcases Int.lt_or_le m 0 with hm | hm
    · exact hm
    · have := Int.mul_nonneg (Int.le_of_lt hg) hm
      omega
theorem one_ev : Ev 61 sh61 [.v (.c (.sl (.int .u64) [(1 : Int)]))] (L 1) := of1_ev 1 (by decide)
theorem sz1 : Sz 1 := Sz.of (b := 1) (by decide) (by decide)
theorem den_ev {n : Int} {d : Nat} (hd : 0 < d) (hs : Sz d) : Ev 78 sh78 [fA n d] (L d) := by
  have e : d - 1 + 1 = d := by omega
  have h := add_ev (hs.mono (Nat.sub_le d 1)) sz1
  rw [e] at h
  exact Ev.of (fun k => fracFracDen.eq k _ _ _) (.call one_ev (.call h (.ret _))) (fun F => rfl)
theorem num_ev (n : Int) (d : Nat) : Ev 114 sh114 [fA n d] (wV n) :=
  Ev.of (fun k => fracFracNum.eq k _ _ _) (.ret _) (fun F => rfl)
theorem lden_ev {n : Int} {d : Nat} (hd : 0 < d) (hs : Sz d) : Ev 83 sh83 [fA n d] (wV (d : Int)) :=
  Ev.of (fun k => fracFracLden.eq k _ _ _) (.call (den_ev hd hs) (.call (wof_ev d false d (by rw [if_neg (by decide)])) (.ret _))) (fun F => rfl)
theorem ffrom_ev (n : Int) : Ev 29 sh29 [wA n] (fV n 1) :=
  Ev.of (fun k => fracFrom.eq k _ _) (.ret _) (fun F => rfl)
theorem fsign_ev (n : Int) (d : Nat) : Ev 33 sh33 [fA n d] (sgZ n) :=
  Ev.of (fun k => fracFracSign.eq k _ _ _) (.call (wsign_ev n) (.ret _)) (fun F => rfl)
theorem sgZ_neg (x : Int) : decide (sgZ x < 0) = decide (x < 0) := by
  unfold sgZ
  by_cases h : x = 0
  · subst h; rfl
  · rw [if_neg h]
    by_cases h1 : x < 0
    · rw [if_pos h1]; simp [h1]
    · rw [if_neg h1]; simp [h1]
theorem made_ev {n : Int} {d : Nat} (hd : 0 < d) (hn : Sz n.natAbs) (hs : Sz d) : Ev 82 sh82 [wA n, nA d] (fV (rdN n d) (rdD n d)) := by
  have hg := gcd_pos (n := n) hd
  have hgs : Sz (Nat.gcd d n.natAbs) := hs.mono (Nat.gcd_le_left _ hd)
  have e : fV (rdN n d) (rdD n d) = ((wV (rdN n d)).1, (wV (rdN n d)).2, L (d / Nat.gcd d n.natAbs - 1)) := rfl
  rw [e]
  exact Ev.of (fun k => fracMade.eq k _ _ _) (.call (wabs_ev n) (.call (gcd_ev hn hs) (.call (wabs_ev n) (.call (div_ev hn hg hgs) (.call (div_ev hs hg hgs) (.call one_ev (.call (nsub_ev (hs.mono (Nat.div_le_self _ _)) (rdD_pos hd)) (.call (wsign_ev n)
    (.call (wof_ev _ (decide (sgZ n < 0)) (rdN n d) (by
      rw [sgZ_neg, ← rdN_abs]
      have h := rdN_neg (n := n) hd
      by_cases h1 : n < 0
      · rw [decide_eq_true h1, if_pos rfl]; have := h.2 h1; omega
      · rw [decide_eq_false h1, if_neg (by decide)]; have := mt h.1 h1; omega)) (.ret _)))))))))) (fun F => rfl)
theorem fof_ev {x y : Int} (hy : y ≠ 0) (hx : Sz x.natAbs) (hs : Sz y.natAbs) : Ev 73 sh73 [wA x, wA y] (fV (rdN (if y < 0 then -x else x) y.natAbs) (rdD (if y < 0 then -x else x) y.natAbs), 0) := by
  have hd : 0 < y.natAbs := by omega
  by_cases h : y < 0
  · rw [if_pos h]
    have hx' : Sz (-x).natAbs := by rw [Int.natAbs_neg]; exact hx
    exact Ev.of (fun k => fracOf.eq k _ _ _ _) (.call (wsign_ev y) (.neg (by unfold sgZ; rw [if_neg hy, if_pos h]; decide) (.pos (by unfold sgZ; rw [if_neg hy, if_pos h]; decide) (.call (wneg_ev x)
      (.to (fun k => fracOf.j6_eq k _ _ _ _ _) (.call (wabs_ev y) (.call (made_ev hd hx' hs) (.ret _)))))))) (fun F => rfl)
  · rw [if_neg h]
    exact Ev.of (fun k => fracOf.eq k _ _ _ _) (.call (wsign_ev y) (.neg (by unfold sgZ; rw [if_neg hy, if_neg h]; decide) (.neg (by unfold sgZ; rw [if_neg hy, if_neg h]; decide)
      (.to (fun k => fracOf.j6_eq k _ _ _ _ _) (.call (wabs_ev y) (.call (made_ev hd hx hs) (.ret _))))))) (fun F => rfl)
theorem fof_zero (x : Int) : Ev 73 sh73 [wA x, wA 0] (fV 0 1, 8) :=
  Ev.of (fun k => fracOf.eq k _ _ _ _) (.call (wsign_ev 0) (.pos (by decide) (.ret _))) (fun F => rfl)
theorem fneg_ev (n : Int) (d : Nat) : Ev 34 sh34 [fA n d] (fV (-n) d) :=
  Ev.of (fun k => fracFracNeg.eq k _ _ _) (.call (wneg_ev n) (.ret _)) (fun F => rfl)
def S0 (n : Nat) : Prop := ∀ E, E = 400000 → n < 2 ^ E
theorem S0.sz {n : Nat} (h : S0 n) : Sz n := by
  obtain ⟨E, hE⟩ : ∃ E, E = 400000 := ⟨_, rfl⟩
  exact Sz.of (h E hE) (by omega)
theorem S0.mono {n m : Nat} (h : S0 m) (hn : n ≤ m) : S0 n := fun E hE => Nat.lt_of_le_of_lt hn (h E hE)
theorem S0.of {n b : Nat} (h : n < 2 ^ b) (hb : b ≤ 400000) : S0 n := fun E hE => Nat.lt_of_lt_of_le h (Nat.pow_le_pow_right (by decide) (by omega))
theorem S0.mul {n m : Nat} (h : S0 n) (h' : S0 m) : Sz (n * m) := by
  obtain ⟨E, hE⟩ : ∃ E, E = 400000 := ⟨_, rfl⟩
  have : n * m < 2 ^ (E + E) := by
    rw [Nat.pow_add]
    exact Nat.mul_lt_mul'' (h E hE) (h' E hE)
  exact Sz.of this (by omega)
theorem S0.mulZ {x y : Int} (h : S0 x.natAbs) (h' : S0 y.natAbs) : Sz (x * y).natAbs := by rw [Int.natAbs_mul]; exact h.mul h'
theorem S0.mulN {x : Int} {d : Nat} (h : S0 x.natAbs) (h' : S0 d) : Sz (x * d).natAbs := by rw [Int.natAbs_mul, Int.natAbs_natCast]; exact h.mul h'
theorem fcmp_ev {n m : Int} {d e : Nat} (hd : 0 < d) (he : 0 < e) (sn : S0 n.natAbs) (sm : S0 m.natAbs) (sd : S0 d) (se : S0 e) : Ev 35 sh35 [fA n d, fA m e] (sgZ (n * e - m * d)) :=
  Ev.of (fun k => fracFracCmp.eq k _ _ _ _ _ _) (.call (lden_ev he se.sz) (.call (wmul_ev (y := (e : Int)) sn.sz (by rw [Int.natAbs_natCast]; exact se.sz)) (.call (lden_ev hd sd.sz) (.call (wmul_ev (y := (d : Int)) sm.sz (by rw [Int.natAbs_natCast]; exact sd.sz)) (.call (wcmp_ev (sn.mulN se) (sm.mulN sd)) (.ret _)))))) (fun F => rfl)
theorem fmul_ev {n m : Int} {d e : Nat} (hd : 0 < d) (he : 0 < e) (sn : S0 n.natAbs) (sm : S0 m.natAbs) (sd : S0 d) (se : S0 e) : Ev 31 sh31 [fA n d, fA m e] (fV (rdN (n * m) (d * e)) (rdD (n * m) (d * e))) :=
  Ev.of (fun k => fracFracMul.eq k _ _ _ _ _ _) (.call (wmul_ev sn.sz sm.sz) (.call (den_ev hd sd.sz) (.call (den_ev he se.sz) (.call (mul_ev sd.sz se.sz) (.call (made_ev (Nat.mul_pos hd he) (sn.mulZ sm) (sd.mul se)) (.ret _)))))) (fun F => rfl)
theorem fquo_ev {n m : Int} {d e : Nat} (hd : 0 < d) (he : 0 < e) (hm : m ≠ 0) (sn : S0 n.natAbs) (sm : S0 m.natAbs) (sd : S0 d) (se : S0 e) : Ev 86 sh86 [fA n d, fA m e]
    (fV (rdN (if (d : Int) * m < 0 then -(n * e) else n * e) ((d : Int) * m).natAbs) (rdD (if (d : Int) * m < 0 then -(n * e) else n * e) ((d : Int) * m).natAbs), 0) :=
  Ev.of (fun k => fracFracQuo.eq k _ _ _ _ _ _) (.call (lden_ev he se.sz) (.call (wmul_ev (y := (e : Int)) sn.sz (by rw [Int.natAbs_natCast]; exact se.sz)) (.call (lden_ev hd sd.sz) (.call (wmul_ev (x := (d : Int)) (by rw [Int.natAbs_natCast]; exact sd.sz) sm.sz)
    (.call (fof_ev (Int.mul_ne_zero (by omega) hm) (sn.mulN se) (by rw [Int.mul_comm]; exact sm.mulN sd)) (.ret _)))))) (fun F => rfl)
/-! ## Rounding -/
def more (m : Int) (q r d : Nat) : Bool := if m = 1 then true else if m = 2 then decide (d ≤ r + r) else if m = 3 then decide (d < r + r) else if m = 4 then decide (d < r + r ∨ d = r + r ∧ q % 2 = 1) else false
def rndN (m : Int) (a d : Nat) : Nat := if a % d ≠ 0 ∧ more m (a / d) (a % d) d = true then a / d + 1 else a / d
theorem andu1 (e : Nat) (h : e < 18446744073709551616) : andI .u64 (e : Int) 1 = ((e % 2 : Nat) : Int) := by
  unfold andI
  have h1 : BitVec.ofInt (Go.IntKind.u64).bits (1 : Int) = BitVec.ofNat 64 1 := rfl
  have h2 : BitVec.ofInt (Go.IntKind.u64).bits (e : Int) = BitVec.ofNat 64 e := BitVec.ofInt_natCast _ _
  rw [h1, h2, wu]
  have h3 : (BitVec.ofNat 64 e &&& BitVec.ofNat 64 1).toNat = e % 2 := by
    rw [BitVec.toNat_and, BitVec.toNat_ofNat, BitVec.toNat_ofNat, Nat.mod_eq_of_lt (a := e) (by omega), show 1 % 2 ^ 64 = 1 from rfl, Nat.and_one_is_mod]
  show ((BitVec.ofNat 64 e &&& BitVec.ofNat 64 1).toNat : Int) % _ = _
  rw [h3]
  omega
theorem more_ev {m : Int} {q r d : Nat} (hq : Sz q) (hr : S0 r) (hd : Sz d) : Ev 122 sh122 [iA m, nA q, nA r, nA d] (more m q r d) := by
  have hrr : Sz (r + r) := by
    have := hr.mul (m := 2) (S0.of (b := 2) (by decide) (by decide))
    exact this.mono (by omega)
  unfold more
  by_cases h1 : m = 1
  · rw [if_pos h1]
    exact Ev.of (fun k => roundModeMore.eq k _ _ _ _) (.call (add_ev hr.sz hr.sz) (.call (cmp_ev hrr hd) (.pos (by simpa using h1) (.ret _)))) (fun F => rfl)
  rw [if_neg h1]
  by_cases h2 : m = 2
  · rw [if_pos h2, show decide (d ≤ r + r) = decide (sgn (r + r) d ≥ 0) by
      unfold sgn; by_cases h : r + r < d
      · rw [if_pos h, decide_eq_false (by omega)]; rfl
      · rw [if_neg h, decide_eq_true (by omega)]; split <;> rfl]
    exact Ev.of (fun k => roundModeMore.eq k _ _ _ _) (.call (add_ev hr.sz hr.sz) (.call (cmp_ev hrr hd) (.neg (by simpa using h1) (.pos (by simpa using h2) (.ret _))))) (fun F => rfl)
  rw [if_neg h2]
  have g : decide (d < r + r) = decide (sgn (r + r) d > 0) := by
    unfold sgn; by_cases h : r + r < d
    · rw [if_pos h, decide_eq_false (by omega)]; rfl
    · rw [if_neg h]
      by_cases h' : d < r + r
      · rw [if_pos h', decide_eq_true h']; rfl
      · rw [if_neg h', decide_eq_false h']; rfl
  by_cases h3 : m = 3
  · rw [if_pos h3, g]
    exact Ev.of (fun k => roundModeMore.eq k _ _ _ _) (.call (add_ev hr.sz hr.sz) (.call (cmp_ev hrr hd) (.neg (by simpa using h1) (.neg (by simpa using h2) (.pos (by simpa using h3) (.ret _)))))) (fun F => rfl)
  rw [if_neg h3]
  by_cases h4 : m = 4
  · rw [if_pos h4]
    have lq : Ev 128 sh128 [nA q] (L q) := ⟨2, limbs_spec (L q) (by have := hq.len; omega)⟩
    have fin : ∀ b : Bool, b = decide (q % 2 = 1) → Et (fun k => roundModeMore.j11 k (sgn (r + r) d) b) ⟨[(.v (.c (.bool (decide (d < r + r ∨ d = r + r ∧ q % 2 = 1)))))], []⟩ := by
      intro b hb
      refine .to (fun k => roundModeMore.j11_eq k _ _) ?_
      by_cases h : d < r + r
      · rw [decide_eq_true (show d < r + r ∨ d = r + r ∧ q % 2 = 1 from .inl h)]
        exact .neg (by rw [← g]; simpa using h) (.ret _)
      · by_cases h' : d = r + r
        · rw [show decide (d < r + r ∨ d = r + r ∧ q % 2 = 1) = b by rw [hb]; exact decide_eq_decide.2 (by omega)]
          exact .pos (by rw [← g]; simpa using h) (.pos (by unfold sgn; rw [if_neg (by omega), if_neg (by omega)]; decide) (.ret _))
        · rw [decide_eq_false (show ¬ (d < r + r ∨ d = r + r ∧ q % 2 = 1) by omega)]
          exact .pos (by rw [← g]; simpa using h) (.neg (by unfold sgn; rw [if_pos (by omega)]; decide) (.ret _))
    rcases Nat.eq_zero_or_pos q with h0 | h0
    · subst h0
      exact Ev.of (fun k => roundModeMore.eq k _ _ _ _) (.call (add_ev hr.sz hr.sz) (.call (cmp_ev hrr hd) (.neg (by simpa using h1) (.neg (by simpa using h2) (.neg (by simpa using h3) (.pos (by simpa using h4) (.call lq (.neg (by decide) (fin false rfl))))))))) (fun F => rfl)
    · have hl : 0 < (L q).length := List.length_pos_iff.2 (by rw [Ne, L_nil]; omega)
      have hg0 : (L q).getD 0 0 = ((q % 18446744073709551616 : Nat) : Int) := by rw [show L q = dig 18446744073709551616 q from rfl, dig_pos (by decide) h0]; rfl
      have hb : (Go.Eng.andI Go.IntKind.u64 ((L q).getD (nat_lit 0) (0 : Int)) (1 : Int) == (1 : Int)) = decide (q % 2 = 1) := by
        show (Go.Eng.andI Go.IntKind.u64 ((L q).getD 0 0) 1 == 1) = _
        rw [hg0, andu1 _ (by omega)]
        have : q % 18446744073709551616 % 2 = q % 2 := by omega
        rw [this]
        by_cases h : q % 2 = 1
        · rw [h]; rfl
        · rw [show q % 2 = 0 by omega]; rfl
      exact Ev.of (fun k => roundModeMore.eq k _ _ _ _) (.call (add_ev hr.sz hr.sz) (.call (cmp_ev hrr hd) (.neg (by simpa using h1) (.neg (by simpa using h2) (.neg (by simpa using h3) (.pos (by simpa using h4) (.call lq (.pos (by simpa using hl) (.call lq (.pos (by constructor <;> omega) (fin _ hb))))))))))) (fun F => rfl)
  · rw [if_neg h4]
    exact Ev.of (fun k => roundModeMore.eq k _ _ _ _) (.call (add_ev hr.sz hr.sz) (.call (cmp_ev hrr hd) (.neg (by simpa using h1) (.neg (by simpa using h2) (.neg (by simpa using h3) (.neg (by simpa using h4) (.ret _))))))) (fun F => rfl)
def sgd (n : Int) (a : Nat) : Int := if n < 0 then -(a : Int) else a
theorem rwhole_ev {n : Int} {d : Nat} {m : Int} (hm : 0 ≤ m ∧ m < 5) (hd : 0 < d) (sn : Sz n.natAbs) (sd : S0 d) : Ev 65 sh65 [fA n d, iA m] (wV (sgd n (rndN m n.natAbs d)), 0) := by
  have hgood : Ev 120 sh120 [iA m] true :=
    Ev.of (fun k => roundModeGood.eq k _) (.pos (by simpa using hm.1) (.ret _)) (fun F => by rw [decide_eq_true hm.2]; rfl)
  have fin : ∀ q : Nat, q = rndN m n.natAbs d → Et (fun k => roundWhole.j6 k (L n.natAbs) (decide (n < 0)) (L (d - 1)) false (L q)) ⟨[(.v (.agg [.sl (.int .u64) (wV (sgd n (rndN m n.natAbs d))).1, .bool (wV (sgd n (rndN m n.natAbs d))).2])), (.v (.c (.int .i64 0)))], []⟩ := by
    intro q hq
    rw [← hq]
    exact .to (fun k => roundWhole.j6_eq k _ _ _ _ _) (.call (fsign_ev n d) (.call (wof_ev q _ (sgd n q) (by
      rw [sgZ_neg]; unfold sgd
      by_cases h : n < 0
      · rw [decide_eq_true h, if_pos rfl, if_pos h]
      · rw [decide_eq_false h, if_neg h, if_neg (by decide)])) (.ret _)))
  by_cases hr : n.natAbs % d = 0
  · exact Ev.of (fun k => roundWhole.eq k _ _ _ _) (.call hgood (.neg (by decide) (.call (num_ev n d) (.call (wabs_ev n) (.call (den_ev hd sd.sz) (.call (div_ev sn hd sd.sz) (.call (zero_ev _) (.neg (by simpa using hr) (fin _ (by unfold rndN; rw [if_neg (by simp [hr])])))))))))) (fun F => rfl)
  · have hmore := more_ev (m := m) (q := n.natAbs / d) (r := n.natAbs % d) (d := d) (sn.mono (Nat.div_le_self _ _)) (sd.mono (Nat.le_of_lt (Nat.mod_lt _ hd))) sd.sz
    by_cases hmo : more m (n.natAbs / d) (n.natAbs % d) d = true
    · exact Ev.of (fun k => roundWhole.eq k _ _ _ _) (.call hgood (.neg (by decide) (.call (num_ev n d) (.call (wabs_ev n) (.call (den_ev hd sd.sz) (.call (div_ev sn hd sd.sz) (.call (zero_ev _) (.pos (by simpa using hr) (.call (den_ev hd sd.sz) (.call hmore (.pos hmo (.call one_ev (.call (add_ev (sn.mono (Nat.div_le_self _ _)) sz1) (fin _ (by unfold rndN; rw [if_pos ⟨hr, hmo⟩]))))))))))))))) (fun F => rfl)
    · exact Ev.of (fun k => roundWhole.eq k _ _ _ _) (.call hgood (.neg (by decide) (.call (num_ev n d) (.call (wabs_ev n) (.call (den_ev hd sd.sz) (.call (div_ev sn hd sd.sz) (.call (zero_ev _) (.pos (by simpa using hr) (.call (den_ev hd sd.sz) (.call hmore (.neg hmo (fin _ (by unfold rndN; rw [if_neg (fun h => hmo h.2)]))))))))))))) (fun F => rfl)
theorem rwhole_bad {n : Int} {d : Nat} {m : Int} (hm : ¬ (0 ≤ m ∧ m < 5)) : Ev 65 sh65 [fA n d, iA m] (wV 0, 2) := by
  have hgood : Ev 120 sh120 [iA m] false := by
    by_cases h : 0 ≤ m
    · exact Ev.of (fun k => roundModeGood.eq k _) (.pos (by simpa using h) (.ret _)) (fun F => by rw [decide_eq_false (by omega)]; rfl)
    · exact Ev.of (fun k => roundModeGood.eq k _) (.neg (by simpa using h) (.ret _)) (fun F => rfl)
  exact Ev.of (fun k => roundWhole.eq k _ _ _ _) (.call hgood (.pos (by decide) (.ret _))) (fun F => rfl)
end TryzE
end
section
set_option linter.unusedSimpArgs false
set_option linter.unusedVariables false
namespace TryzE
open Go.Eng Go.Proofs Num KD
set_option maxRecDepth 1000000
set_option linter.unusedVariables false
abbrev sA (s : ByteArray) : AA := .v (.c (.str s))
/-! ## Decimals -/
def dV (c : Int) (s : Int) : List Int × (Bool × Int) := (L c.natAbs, decide (c < 0), s)
abbrev dA (c s : Int) : AA := .v (.agg [.sl (.int .u64) (L c.natAbs), .bool (decide (c < 0)), .int .i64 s])
theorem s0ten {s : Nat} (h : s ≤ 4096) : S0 (10 ^ s) := by
  intro E hE
  have h4 := (show ∀ e : Nat, 10 ^ e ≤ 2 ^ (4 * e) from fun e => by rw [Nat.pow_mul]; exact Nat.pow_le_pow_left (by decide) e) s
  exact Nat.lt_of_le_of_lt h4 (Nat.pow_lt_pow_right (by decide) (by omega))
theorem dten_ev {s : Nat} (h : s ≤ 4096) : Ev 109 sh109 [iA (s : Int)] (wV ((10 ^ s : Nat) : Int)) := by
  have hs : tenS s = 0 := by rw [tenS, if_neg (by omega), if_neg (by omega)]
  have hv : tenV s = 10 ^ s := by rw [tenV, if_pos hs, Int.toNat_natCast]
  have ht : Ev 153 sh153 [iA (s : Int)] (L (tenV s), tenS s) := ten_spec s
  rw [hv, hs] at ht
  exact Ev.of (fun k => decTen.eq k _) (.call ht (.call (wof_ev (10 ^ s) false _ (by rw [if_neg (by decide)])) (.ret _))) (fun F => rfl)
theorem dof_ev (c s : Int) (h0 : 0 ≤ s) (h1 : s ≤ 64) : Ev 50 sh50 [wA c, iA s] (dV c s, 0) := by
  have hw : Ev 98 sh98 [iA s] false :=
    Ev.of (fun k => decWrong.eq k _) (.pos (by simpa using h0) (.ret _)) (fun F => by rw [decide_eq_false (by omega)]; rfl)
  exact Ev.of (fun k => decOf.eq k _ _ _) (.call hw (.neg (by decide) (.ret _))) (fun F => rfl)
theorem dof_bad (c s : Int) (h : ¬ (0 ≤ s ∧ s ≤ 64)) : Ev 50 sh50 [wA c, iA s] (dV 0 0, 10) := by
  have hw : Ev 98 sh98 [iA s] true := by
    by_cases h0 : 0 ≤ s
    · exact Ev.of (fun k => decWrong.eq k _) (.pos (by simpa using h0) (.ret _)) (fun F => by rw [decide_eq_true (by omega)]; rfl)
    · exact Ev.of (fun k => decWrong.eq k _) (.neg (by simpa using h0) (.ret _)) (fun F => rfl)
  exact Ev.of (fun k => decOf.eq k _ _ _) (.call hw (.pos rfl (.ret _))) (fun F => rfl)
theorem dcoef_ev (c s : Int) : Ev 39 sh39 [dA c s] (wV c) := Ev.of (fun k => decDecCoef.eq k _ _ _) (.ret _) (fun F => rfl)
theorem dscale_ev (c s : Int) : Ev 48 sh48 [dA c s] s := Ev.of (fun k => decDecScale.eq k _ _ _) (.ret _) (fun F => rfl)
theorem dat_ev {c : Int} {s t : Int} (u : Nat) (hu : Go.IntKind.i64.wrap (t - s) = u) (hu' : u ≤ 4096) (hc : Sz c.natAbs) : Ev 97 sh97 [dA c s, iA t] (wV (c * ((10 ^ u : Nat) : Int))) :=
  Ev.of (fun k => decDecAt.eq k _ _ _ _) (.call (hu ▸ dten_ev hu') (.call (wmul_ev (y := ((10 ^ u : Nat) : Int)) hc (by rw [Int.natAbs_natCast]; exact (s0ten hu').sz)) (.ret _))) (fun F => rfl)
theorem dcmp_ev {c d : Int} {s t : Nat} (hs : s ≤ 64) (ht : t ≤ 64) (hc : S0 c.natAbs) (hd : S0 d.natAbs) : Ev 49 sh49 [dA c s, dA d t] (sgZ (c * ((10 ^ (max s t - s) : Nat) : Int) - d * ((10 ^ (max s t - t) : Nat) : Int))) := by
  have hm : Go.Eng.maxI (s : Int) (t : Int) = ((max s t : Nat) : Int) := by
    unfold Go.Eng.maxI
    split <;> omega
  have z : ∀ {c : Int} {u : Nat}, S0 c.natAbs → u ≤ 64 → Sz (c * ((10 ^ u : Nat) : Int)).natAbs := fun hc hu => hc.mulN (s0ten (by omega))
  exact Ev.of (fun k => decDecCmp.eq k _ _ _ _ _ _) (.call (dat_ev (max s t - s) (by rw [hm, wi (by omega) (by omega)]; omega) (by omega) hc.sz) (.call (dat_ev (max s t - t) (by rw [hm, wi (by omega) (by omega)]; omega) (by omega) hd.sz)
    (.call (wcmp_ev (z hc (by omega)) (z hd (by omega))) (.ret _)))) (fun F => rfl)
theorem dfrac_ev {c : Int} {s : Nat} (hs : s ≤ 4096) (hc : Sz c.natAbs) : Ev 59 sh59 [dA c (s : Int)] (fV (rdN c (10 ^ s)) (rdD c (10 ^ s))) := by
  have hp : 0 < 10 ^ s := Nat.pow_pos (by decide)
  have h := fof_ev (x := c) (y := ((10 ^ s : Nat) : Int)) (by omega) hc (by rw [Int.natAbs_natCast]; exact (s0ten hs).sz)
  rw [if_neg (by omega), Int.natAbs_natCast] at h
  exact Ev.of (fun k => decDecFrac.eq k _ _ _) (.call (dten_ev hs) (.call h (.ret _))) (fun F => rfl)
theorem fquo_pos {n : Int} {d e m : Nat} (hd : 0 < d) (he : 0 < e) (hm : 0 < m) (sn : S0 n.natAbs) (sm : S0 m) (sd : S0 d) (se : S0 e) : Ev 86 sh86 [fA n d, fA (m : Int) e] (fV (rdN (n * e) (d * m)) (rdD (n * e) (d * m)), 0) := by
  have hp : 0 < d * m := Nat.mul_pos hd hm
  have h := fquo_ev (n := n) (m := (m : Int)) hd he (by omega) sn (by rw [Int.natAbs_natCast]; exact sm) sd se
  have e1 : (d : Int) * (m : Int) = ((d * m : Nat) : Int) := by rw [Int.natCast_mul]
  rw [e1, if_neg (by omega), Int.natAbs_natCast] at h
  exact h
theorem fof_pos {x : Int} {m : Nat} (hm : 0 < m) (hx : Sz x.natAbs) (hs : Sz m) : Ev 73 sh73 [wA x, wA (m : Int)] (fV (rdN x m) (rdD x m), 0) := by
  have h := fof_ev (x := x) (y := (m : Int)) (by omega) hx (by rw [Int.natAbs_natCast]; exact hs)
  rw [if_neg (by omega), Int.natAbs_natCast] at h
  exact h
/-! ## Rates -/
theorem s0i {n b : Nat} (h : n < 2 ^ b) (hb : b ≤ 400000) : S0 n := S0.of h hb
theorem trate_ev {str : ByteArray} {c : Nat} {s : Nat} (hp : Ev 46 sh46 [sA str] (dV c s, 0)) (hs : s ≤ 12) (hc : c ≤ 1000 * 10 ^ s) :
    Ev 72 sh72 [sA str] (fV (rdN (rdN c (10 ^ s)) (rdD c (10 ^ s) * 100)) (rdD (rdN c (10 ^ s)) (rdD c (10 ^ s) * 100)), 0) := by
  have hp10 : 0 < 10 ^ s := Nat.pow_pos (by decide)
  have h12 : 10 ^ s ≤ 10 ^ 12 := Nat.pow_le_pow_right (by decide) hs
  have sc : S0 c := s0i (b := 64) (by omega) (by decide)
  have q0 := fquo_pos (n := rdN c (10 ^ s)) (d := rdD c (10 ^ s)) (e := 1) (m := 100) (rdD_pos hp10) (by decide) (by decide) (sc.mono (by have := rdN_le c (10 ^ s); omega)) (s0i (b := 8) (by decide) (by decide)) ((s0ten (by omega)).mono (rdD_le _ _)) (s0i (b := 1) (by decide) (by decide))
  rw [Int.natCast_one, Int.mul_one] at q0
  have t1 : decide (sgZ (c : Int) < 0) = false := by rw [sgZ_neg, decide_eq_false (by omega)]
  have t2 : decide (sgZ ((c : Int) * ((10 ^ (max s 0 - s) : Nat) : Int) - 1000 * ((10 ^ (max s 0 - 0) : Nat) : Int)) > 0) = false := by
    rw [show max s 0 - s = 0 by omega, show max s 0 - 0 = s by omega]
    have e1 : ((10 ^ 0 : Nat) : Int) = 1 := rfl
    rw [e1]
    generalize 10 ^ s = p at *
    unfold sgZ
    by_cases h : (c : Int) * 1 - 1000 * (p : Int) = 0
    · rw [if_pos h]; decide
    · rw [if_neg h, if_pos (by omega)]; decide
  have cm := dcmp_ev (c := (c : Int)) (d := 1000) (s := s) (t := 0) (by omega) (by decide) sc (s0i (b := 10) (by decide) (by decide))
  exact Ev.of (fun k => termsRate.eq k _) (.call hp <| .neg Bool.false_ne_true <| .call (wfrom_ev 1000 (by decide) (by decide)) <| .call (dof_ev 1000 0 (by decide) (by decide)) <| .call (dcoef_ev c s) <| .call (wsign_ev (c : Int)) <| .pos t1 <|
    .call cm <| .pos t2 <| .call (dscale_ev c s) <| .neg (by rw [decide_eq_true_eq]; omega) <| .to (fun k => termsRate.j7_eq k _ _ _ _) <| .call (dfrac_ev (by omega) sc.sz) <| .call (wfrom_ev 100 (by decide) (by decide)) <| .call (ffrom_ev 100) <| .call q0 <| .ret _) (fun F => rfl)
theorem lrate_ev {str : ByteArray} {n : Int} {d : Nat} (ht : Ev 72 sh72 [sA str] (fV n d, 0)) (hd : 0 < d) (sn : S0 n.natAbs) (sd : S0 d) {e : Nat} (h0 : 1 ≤ e) (h1 : e ≤ 12) :
    Ev 17 sh17 [sA str, iA (e : Int)] (fV (rdN (n * rdN e 12) (d * rdD e 12)) (rdD (n * rdN e 12) (d * rdD e 12)), 0) := by
  have e4 : (12 : Int) = ((12 : Nat) : Int) := rfl
  have f0 := fof_pos (x := (e : Int)) (m := 12) (by decide) (Sz.of (b := 4) (by rw [Int.natAbs_natCast]; exact Nat.lt_of_le_of_lt h1 (by decide)) (by decide)) (Sz.of (b := 4) (by decide) (by decide))
  have m0 := fmul_ev (n := n) (d := d) (m := rdN e 12) (e := rdD e 12) hd (rdD_pos (by decide)) sn (s0i (b := 4) (Nat.lt_of_le_of_lt (rdN_le (e : Int) 12) (by rw [Int.natAbs_natCast]; exact Nat.lt_of_le_of_lt h1 (by decide))) (by decide)) sd (s0i (b := 4) (Nat.lt_of_le_of_lt (rdD_le (e : Int) 12) (by decide)) (by decide))
  exact Ev.of (fun k => levelRate.eq k _ _) (.call ht <| .neg Bool.false_ne_true <| .pos (by rw [decide_eq_false (by omega)]) <| .neg (by rw [decide_eq_true_eq]; omega) <|
    .to (fun k => levelRate.j6_eq k _ _ _ _ _) <| .call (wfrom_ev e (by omega) (by omega)) <| .call (wfrom_ev 12 (by decide) (by decide)) <| .call f0 <| .call m0 <| .ret _) (fun F => rfl)
theorem parse_of {str : ByteArray} {c s : Nat} (h : ∀ k, C (k + 200) 46 [sA str] = some ⟨[(.v (.agg [.sl (.int .u64) (L c), .bool false, .int .i64 (s : Int)])), (.v (.c (.int .i64 0)))], []⟩) : Ev 46 sh46 [sA str] (dV c s, 0) := by
  refine ⟨200, fun k hk F => ?_⟩
  rw [show k = k - 200 + 200 by omega, h]
  unfold dV
  rw [decide_eq_false (by omega), Int.natAbs_natCast]
  rfl
end TryzE
end
section
set_option linter.unusedSimpArgs false
set_option linter.unusedVariables false
namespace TryzE
open Go.Eng Go.Proofs Num KD
set_option maxRecDepth 1000000
set_option linter.unusedVariables false
theorem more_scale {m : Int} {q r d g : Nat} (hg : 0 < g) : more m q (g * r) (g * d) = more m q r d := by
  have e : g * r + g * r = g * (r + r) := by rw [Nat.mul_add]
  have h1 : g * d ≤ g * (r + r) ↔ d ≤ r + r := Nat.mul_le_mul_left_iff hg
  have h2 : g * d < g * (r + r) ↔ d < r + r := Nat.mul_lt_mul_left hg
  have h3 : g * d = g * (r + r) ↔ d = r + r := ⟨fun h => Nat.eq_of_mul_eq_mul_left hg h, fun h => by rw [h]⟩
  unfold more
  rw [e]
  simp only [h1, h2, h3]
theorem rndN_scale {m : Int} {a d g : Nat} (hg : 0 < g) : rndN m (g * a) (g * d) = rndN m a d := by
  unfold rndN
  rw [Nat.mul_div_mul_left _ _ hg, Nat.mul_mod_mul_left, more_scale hg]
  have : g * (a % d) ≠ 0 ↔ a % d ≠ 0 := by
    constructor
    · intro h h'; exact h (by rw [h', Nat.mul_zero])
    · intro h h'; rcases Nat.mul_eq_zero.1 h' with h'' | h'' <;> omega
  simp only [this]
theorem rndN_rd {m x : Int} {d : Nat} (hd : 0 < d) : rndN m (rdN x d).natAbs (rdD x d) = rndN m x.natAbs d := by
  have hg := gcd_pos (n := x) hd
  have h1 : Nat.gcd d x.natAbs * (rdN x d).natAbs = x.natAbs := by
    rw [rdN_abs]; exact Nat.mul_div_cancel' (Nat.gcd_dvd_right _ _)
  have h2 := rdD_mul x d
  have h := rndN_scale (m := m) (a := (rdN x d).natAbs) (d := rdD x d) hg
  rw [h1, h2] at h
  exact h.symm
theorem sgd_rd {x : Int} {d a : Nat} (hd : 0 < d) : sgd (rdN x d) a = sgd x a := by
  have h := rdN_neg (n := x) hd
  unfold sgd
  simp only [h]
theorem rwhole_rd {x : Int} {d : Nat} {m : Int} (hm : 0 ≤ m ∧ m < 5) (hd : 0 < d) (sn : Sz x.natAbs) (sd : S0 d) : Ev 65 sh65 [fA (rdN x d) (rdD x d), iA m] (wV (sgd x (rndN m x.natAbs d)), 0) := by
  have h := rwhole_ev (n := rdN x d) (d := rdD x d) hm (rdD_pos hd) (sn.mono (rdN_le x d)) (sd.mono (rdD_le x d))
  rw [rndN_rd hd, sgd_rd hd] at h
  exact h
/-! ## Level -/
theorem s0int {n b : Nat} (h : n < 2 ^ b) (hb : b ≤ 400000) : S0 ((n : Int)).natAbs := by rw [Int.natAbs_natCast]; exact S0.of h hb
theorem part_ev {x : Int} {n : Nat} {m : Int} (hx : 0 ≤ x) (sx : Sz x.natAbs) (h0 : 1 ≤ n) (h1 : n ≤ 1200) (hm : 0 ≤ m ∧ m < 5) : Ev 22 sh22 [wA x, iA (n : Int), iA m] (wV (rndN m x.natAbs n : Nat), 0) := by
  have s16 : S0 n := s0i (b := 16) (Nat.lt_of_le_of_lt h1 (by decide)) (by decide)
  have r := rwhole_rd (x := x) (d := n) hm (by omega) sx s16
  rw [show sgd x (rndN m x.natAbs n) = (rndN m x.natAbs n : Nat) by unfold sgd; rw [if_neg (by omega)]] at r
  have g : decide (sgZ x < 0) = false := by rw [sgZ_neg, decide_eq_false (by omega)]
  exact Ev.of (fun k => levelPart.eq k _ _ _ _) (.call (wsign_ev x) <| .neg (by rw [g]; exact Bool.false_ne_true) <| .pos (by rw [decide_eq_false (by omega)]) <| .neg (by rw [decide_eq_true_eq]; omega) <|
    .to (fun k => levelPart.j5_eq k _ _ _ _ _) <| .call (wfrom_ev n (by omega) (by omega)) <| .call (fof_pos (m := n) (by omega) sx s16.sz) <| .call r <| .ret _) (fun F => rfl)
theorem plain_ev (n : Nat) : Ev 119 sh119 [nA n] (wV (n : Int)) :=
  Ev.of (fun k => powerPlain.eq k _) (.call (wof_ev n false n (by rw [if_neg (by decide)])) <| .ret _) (fun F => rfl)
theorem pow_ev {x n : Nat} (hx : (L x).length < 1000) (h : powS x n = 0) : Ev 117 sh117 [nA x, iA (n : Int)] (L (x ^ n), 0) := by
  have hp : Ev 117 sh117 [nA x, iA (n : Int)] (L (powV x n), powS x n) := pow_spec x n hx
  rw [show powV x n = x ^ n by rw [powV, if_pos h, Int.toNat_natCast], h] at hp
  exact hp
theorem level0_ev {a : Int} {ad n : Nat} (hd : 0 < ad) (sa : S0 a.natAbs) (sd : S0 ad) (h0 : 1 ≤ n) (h1 : n ≤ 1200) : Ev 64 sh64 [fA a ad, fA 0 1, iA (n : Int)] (fV (rdN a (ad * n)) (rdD a (ad * n)), 0) := by
  have s16 : S0 n := s0i (b := 16) (Nat.lt_of_le_of_lt h1 (by decide)) (by decide)
  have q := fquo_pos (n := a) (d := ad) (e := 1) (m := n) hd (by decide) (by omega) sa s16 sd (s0i (b := 1) (by decide) (by decide))
  rw [Int.natCast_one, Int.mul_one] at q
  exact Ev.of (fun k => powerLevel.eq k _ _ _ _ _ _ _) (.pos (by rw [decide_eq_false (by omega)]) <| .to (fun k => powerLevel.j2_eq k _ _ _ _ _ _ _ _ _) <| .neg (by rw [decide_eq_true_eq]; omega) <| .call (fsign_ev 0 1) <| .neg (by decide) <| .call (fsign_ev 0 1) <| .pos (by decide) <|
    .call (wfrom_ev n (by omega) (by omega)) <| .call (ffrom_ev n) <| .call q <| .ret _) (fun F => rfl)
theorem level_ev {a rn : Int} {ad rd n : Nat} (hd : 0 < ad) (hrd : 0 < rd) (hrn : 0 < rn) (h0 : 1 ≤ n) (h1 : n ≤ 1200) (sa : S0 a.natAbs) (sr : S0 rn.natAbs) (sar : S0 (a * rn).natAbs) (sd : S0 ad) (srd : S0 rd) (sdd : S0 (ad * rd))
    (lA : (L (rn.natAbs + rd)).length < 1000) (lB : (L rd).length < 1000) (hp : powS (rn.natAbs + rd) n = 0) (hq : powS rd n = 0) (sP : S0 ((rn.natAbs + rd) ^ n)) :
    Ev 64 sh64 [fA a ad, fA rn rd, iA (n : Int)] (fV (rdN (a * rn * (((rn.natAbs + rd) ^ n : Nat) : Int)) (ad * rd * ((rn.natAbs + rd) ^ n - rd ^ n))) (rdD (a * rn * (((rn.natAbs + rd) ^ n : Nat) : Int)) (ad * rd * ((rn.natAbs + rd) ^ n - rd ^ n))), 0) := by
  have hlt : rd ^ n < (rn.natAbs + rd) ^ n := Nat.pow_lt_pow_left (by omega) (by omega)
  have g0 : decide (sgZ rn < 0) = false := by rw [sgZ_neg, decide_eq_false (by omega)]
  have g1 : (sgZ rn == 0) = false := by unfold sgZ; rw [if_neg (by omega), if_neg (by omega)]; rfl
  have m1 := wmul_ev (x := a * rn) (y := (((rn.natAbs + rd) ^ n : Nat) : Int)) sar.sz (by rw [Int.natAbs_natCast]; exact sP.sz)
  have pA := pow_ev lA hp
  have pB := pow_ev lB hq
  have sL : S0 ((rn.natAbs + rd) ^ n - rd ^ n) := sP.mono (Nat.sub_le _ _)
  have f := fof_pos (x := a * rn * (((rn.natAbs + rd) ^ n : Nat) : Int)) (m := ad * rd * ((rn.natAbs + rd) ^ n - rd ^ n)) (Nat.mul_pos (Nat.mul_pos hd hrd) (by omega)) (sar.mulN sP) (sdd.mul sL)
  generalize hPe : (rn.natAbs + rd) ^ n = P at *
  generalize hQe : rd ^ n = Q at *
  have addr := add_ev sr.sz srd.sz
  exact Ev.of (fun k => powerLevel.eq k _ _ _ _ _ _ _) (.pos (by rw [decide_eq_false (by omega)]) <| .to (fun k => powerLevel.j2_eq k _ _ _ _ _ _ _ _ _) <| .neg (by rw [decide_eq_true_eq]; omega) <| .call (fsign_ev rn rd) <| .neg (by rw [g0]; exact Bool.false_ne_true) <| .call (fsign_ev rn rd) <| .neg (by rw [g1]; exact Bool.false_ne_true) <|
    .call (den_ev hrd srd.sz) <| .call (num_ev rn rd) <| .call (wabs_ev rn) <| .call addr <| .call pA <| .call pB <| .pos rfl <| .neg Bool.false_ne_true <|
    .to (fun k => powerLevel.j13_eq k _ _ _ _ _ _ _ _ _ _) <| .call (nsub_ev sP.sz (Nat.le_of_lt hlt)) <| .call (num_ev a ad) <| .call (num_ev rn rd) <| .call (wmul_ev sa.sz sr.sz) <| .call (plain_ev P) <| .call m1 <| .call (den_ev hd sd.sz) <| .call (mul_ev sd.sz srd.sz) <| .call (mul_ev sdd.sz sL.sz) <|
    .call (plain_ev _) <| .call f <| .ret _) (fun F => rfl)
theorem pay_ev {str : ByteArray} {x rn y : Int} {e rd n d : Nat} {m : Int} (hr : Ev 17 sh17 [sA str, iA (e : Int)] (fV rn rd, 0)) (hl : Ev 64 sh64 [fA x 1, fA rn rd, iA (n : Int)] (fV (rdN y d) (rdD y d), 0))
    (hx : 0 ≤ x) (hy : 0 ≤ y) (hd : 0 < d) (sy : Sz y.natAbs) (sd : S0 d) (hm : 0 ≤ m ∧ m < 5) : Ev 13 sh13 [wA x, sA str, iA (e : Int), iA (n : Int), iA m] (wV (rndN m y.natAbs d : Nat), 0) := by
  have r := rwhole_rd (x := y) (d := d) hm hd sy sd
  rw [show sgd y (rndN m y.natAbs d) = (rndN m y.natAbs d : Nat) by unfold sgd; rw [if_neg (by omega)]] at r
  have g : decide (sgZ x < 0) = false := by rw [sgZ_neg, decide_eq_false (by omega)]
  exact Ev.of (fun k => levelPayment.eq k _ _ _ _ _ _) (.call hr <| .neg Bool.false_ne_true <| .call (wsign_ev x) <| .neg (by rw [g]; exact Bool.false_ne_true) <| .call (ffrom_ev x) <| .call hl <| .neg Bool.false_ne_true <| .call r <| .ret _) (fun F => rfl)
theorem powS_small {x n : Nat} (hx : x < 18446744073709551616) (hn : n ≤ 1200) : powS x n = 0 := by
  have h := bitsV_ok x
  have hl : (L x).length ≤ 1 := L_len (by simpa using hx)
  have hb : bitsV x ≤ 64 := by omega
  have h2 : bitsV x * (n : Int) ≤ 64 * 1200 := Int.mul_le_mul hb (by omega) (by omega) (by decide)
  rw [powS, if_neg (by omega), if_neg (by omega), if_neg (by omega)]
end TryzE
end
section
set_option linter.unusedSimpArgs false
set_option linter.unusedVariables false
namespace TryzE
open Go.Eng Go.Proofs Num KD
set_option maxRecDepth 1000000
set_option linter.unusedVariables false
theorem p0_eq (k : Nat) : C (k + 200) 46 [sA ⟨#[(48 : UInt8)]⟩] = some ⟨[(.v (.agg [.sl (.int .u64) [], .bool false, .int .i64 0])), (.v (.c (.int .i64 0)))], []⟩ := by kernel_rfl
theorem p75_eq (k : Nat) : C (k + 200) 46 [sA ⟨#[(55 : UInt8), (46 : UInt8), (53 : UInt8)]⟩] = some ⟨[(.v (.agg [.sl (.int .u64) [75], .bool false, .int .i64 1])), (.v (.c (.int .i64 0)))], []⟩ := by kernel_rfl
theorem p12_eq (k : Nat) : C (k + 200) 46 [sA ⟨#[(49 : UInt8), (50 : UInt8)]⟩] = some ⟨[(.v (.agg [.sl (.int .u64) [12], .bool false, .int .i64 0])), (.v (.c (.int .i64 0)))], []⟩ := by kernel_rfl
theorem p6_eq (k : Nat) : C (k + 200) 46 [sA ⟨#[(54 : UInt8)]⟩] = some ⟨[(.v (.agg [.sl (.int .u64) [6], .bool false, .int .i64 0])), (.v (.c (.int .i64 0)))], []⟩ := by kernel_rfl
end TryzE
end
section
set_option linter.unusedSimpArgs false
set_option linter.unusedVariables false
namespace TryzE
open Go.Eng Go.Proofs Num KD
set_option maxRecDepth 1000000
set_option linter.unusedVariables false
/-! ## Rates that are known, and what the document fixes -/
theorem t0_ev : Ev 72 sh72 [sA ⟨#[(48 : UInt8)]⟩] (fV 0 1, 0) := by
  have h := trate_ev (parse_of (c := 0) (s := 0) p0_eq) (by decide) (by decide)
  have e1 : rdN (rdN ((0 : Nat) : Int) (10 ^ 0)) (rdD ((0 : Nat) : Int) (10 ^ 0) * 100) = 0 := by kernel_rfl
  have e2 : rdD (rdN ((0 : Nat) : Int) (10 ^ 0)) (rdD ((0 : Nat) : Int) (10 ^ 0) * 100) = 1 := by kernel_rfl
  rw [e1, e2] at h
  exact h
theorem t75_ev : Ev 72 sh72 [sA ⟨#[(55 : UInt8), (46 : UInt8), (53 : UInt8)]⟩] (fV 3 40, 0) := by
  have h := trate_ev (parse_of (c := 75) (s := 1) p75_eq) (by decide) (by decide)
  have e1 : rdN (rdN ((75 : Nat) : Int) (10 ^ 1)) (rdD ((75 : Nat) : Int) (10 ^ 1) * 100) = 3 := by kernel_rfl
  have e2 : rdD (rdN ((75 : Nat) : Int) (10 ^ 1)) (rdD ((75 : Nat) : Int) (10 ^ 1) * 100) = 40 := by kernel_rfl
  rw [e1, e2] at h
  exact h
theorem t12_ev : Ev 72 sh72 [sA ⟨#[(49 : UInt8), (50 : UInt8)]⟩] (fV 3 25, 0) := by
  have h := trate_ev (parse_of (c := 12) (s := 0) p12_eq) (by decide) (by decide)
  have e1 : rdN (rdN ((12 : Nat) : Int) (10 ^ 0)) (rdD ((12 : Nat) : Int) (10 ^ 0) * 100) = 3 := by kernel_rfl
  have e2 : rdD (rdN ((12 : Nat) : Int) (10 ^ 0)) (rdD ((12 : Nat) : Int) (10 ^ 0) * 100) = 25 := by kernel_rfl
  rw [e1, e2] at h
  exact h
theorem t6_ev : Ev 72 sh72 [sA ⟨#[(54 : UInt8)]⟩] (fV 3 50, 0) := by
  have h := trate_ev (parse_of (c := 6) (s := 0) p6_eq) (by decide) (by decide)
  have e1 : rdN (rdN ((6 : Nat) : Int) (10 ^ 0)) (rdD ((6 : Nat) : Int) (10 ^ 0) * 100) = 3 := by kernel_rfl
  have e2 : rdD (rdN ((6 : Nat) : Int) (10 ^ 0)) (rdD ((6 : Nat) : Int) (10 ^ 0) * 100) = 50 := by kernel_rfl
  rw [e1, e2] at h
  exact h
theorem lr0_ev : Ev 17 sh17 [sA ⟨#[(48 : UInt8)]⟩, iA 1] (fV 0 1, 0) := by
  have h := lrate_ev t0_ev (by decide) (s0i (b := 10) (by decide) (by decide)) (s0i (b := 10) (by decide) (by decide)) (e := 1) (by decide) (by decide)
  have e1 : rdN (0 * rdN ((1 : Nat) : Int) 12) (1 * rdD ((1 : Nat) : Int) 12) = 0 := by kernel_rfl
  have e2 : rdD (0 * rdN ((1 : Nat) : Int) 12) (1 * rdD ((1 : Nat) : Int) 12) = 1 := by kernel_rfl
  rw [e1, e2] at h
  exact h
theorem lr75_ev : Ev 17 sh17 [sA ⟨#[(55 : UInt8), (46 : UInt8), (53 : UInt8)]⟩, iA 12] (fV 3 40, 0) := by
  have h := lrate_ev t75_ev (by decide) (s0i (b := 10) (by decide) (by decide)) (s0i (b := 10) (by decide) (by decide)) (e := 12) (by decide) (by decide)
  have e1 : rdN (3 * rdN ((12 : Nat) : Int) 12) (40 * rdD ((12 : Nat) : Int) 12) = 3 := by kernel_rfl
  have e2 : rdD (3 * rdN ((12 : Nat) : Int) 12) (40 * rdD ((12 : Nat) : Int) 12) = 40 := by kernel_rfl
  rw [e1, e2] at h
  exact h
theorem lr12_ev : Ev 17 sh17 [sA ⟨#[(49 : UInt8), (50 : UInt8)]⟩, iA 1] (fV 1 100, 0) := by
  have h := lrate_ev t12_ev (by decide) (s0i (b := 10) (by decide) (by decide)) (s0i (b := 10) (by decide) (by decide)) (e := 1) (by decide) (by decide)
  have e1 : rdN (3 * rdN ((1 : Nat) : Int) 12) (25 * rdD ((1 : Nat) : Int) 12) = 1 := by kernel_rfl
  have e2 : rdD (3 * rdN ((1 : Nat) : Int) 12) (25 * rdD ((1 : Nat) : Int) 12) = 100 := by kernel_rfl
  rw [e1, e2] at h
  exact h
theorem lr6_ev : Ev 17 sh17 [sA ⟨#[(54 : UInt8)]⟩, iA 1] (fV 1 200, 0) := by
  have h := lrate_ev t6_ev (by decide) (s0i (b := 10) (by decide) (by decide)) (s0i (b := 10) (by decide) (by decide)) (e := 1) (by decide) (by decide)
  have e1 : rdN (3 * rdN ((1 : Nat) : Int) 12) (50 * rdD ((1 : Nat) : Int) 12) = 1 := by kernel_rfl
  have e2 : rdD (3 * rdN ((1 : Nat) : Int) 12) (50 * rdD ((1 : Nat) : Int) 12) = 200 := by kernel_rfl
  rw [e1, e2] at h
  exact h
theorem wprint_pos {x : Int} (hx : 0 ≤ x) (s : Sz x.natAbs) : Ev 15 sh15 [wA x] (dec x.natAbs) :=
  Ev.of (fun k => wholeIntPrint.eq k _ _) (.neg (by rw [decide_eq_true_eq]; omega) <| .call (print_ev s) <| .ret _) (fun F => rfl)
theorem fprint_pos {n : Int} {d : Nat} (hn : 0 ≤ n) (hd : 1 < d) (sn : Sz n.natAbs) (sd : Sz d) (h1 : (dec n.natAbs).size + 1 ≤ 9223372036854775807) (h2 : (dec n.natAbs ++ (⟨#[(47 : UInt8)]⟩ : ByteArray)).size + (dec d).size ≤ 9223372036854775807) :
    Ev 19 sh19 [fA n d] (dec n.natAbs ++ (⟨#[(47 : UInt8)]⟩ : ByteArray) ++ dec d) :=
  Ev.of (fun k => fracFracPrint.eq k _ _ _) (.call (zero_ev (d - 1)) <| .neg (by rw [decide_eq_true_eq]; omega) <| .call (wprint_pos hn sn) <| .pos h1 <| .call (den_ev (by omega) sd) <| .call (print_ev sd) <| .pos h2 <| .ret _) (fun F => rfl)
theorem s1000 : S0 1000000 := s0i (b := 20) (by decide) (by decide)
theorem z1000 {n : Nat} (h : n ≤ 1000000) : S0 n := s1000.mono h
theorem pay12_ev : Ev 13 sh13 [wA 100000, sA ⟨#[(49 : UInt8), (50 : UInt8)]⟩, iA 1, iA 12, iA 2] (wV 8885, 0) := by
  have l := level_ev (a := 100000) (rn := 1) (ad := 1) (rd := 100) (n := 12) (by decide) (by decide) (by decide) (by decide) (by decide) (z1000 (by decide)) (z1000 (by decide)) (z1000 (by decide)) (z1000 (by decide)) (z1000 (by decide)) (z1000 (by decide))
    (by decide) (by decide) (powS_small (by decide) (by decide)) (powS_small (by decide) (by decide)) (s0i (b := 100) (by decide) (by decide))
  have h := pay_ev (m := 2) (e := 1) lr12_ev l (by decide) (by decide) (by decide) (Sz.of (b := 200) (by decide) (by decide)) (s0i (b := 200) (by decide) (by decide)) (by decide)
  have e1 : rndN 2 ((100000 : Int) * 1 * ((((1 : Int).natAbs + 100) ^ 12 : Nat) : Int)).natAbs (1 * 100 * (((1 : Int).natAbs + 100) ^ 12 - 100 ^ 12)) = 8885 := by kernel_rfl
  rw [e1] at h
  exact h
theorem paybad_ev {str : ByteArray} {rn : Int} {rd : Nat} {x e n m : Int} (hr : Ev 17 sh17 [sA str, iA e] (fV rn rd, 0)) (hx : x < 0) : Ev 13 sh13 [wA x, sA str, iA e, iA n, iA m] (wV 0, 19) := by
  have g : decide (sgZ x < 0) = true := by rw [sgZ_neg, decide_eq_true hx]
  exact Ev.of (fun k => levelPayment.eq k _ _ _ _ _ _) (.call hr <| .neg Bool.false_ne_true <| .call (wsign_ev x) <| .pos g <| .ret _) (fun F => rfl)
theorem wakes16_ev : Ev 21 sh21 [] true := by
  have p := part_ev (x := 100) (n := 3) (m := 1) (by decide) (z1000 (by decide)).sz (by decide) (by decide) (by decide)
  have e1 : rndN 1 (100 : Int).natAbs 3 = 34 := by kernel_rfl
  rw [e1] at p
  have w8 := wprint_pos (x := 8885) (by decide) (z1000 (by decide)).sz
  have w34 := wprint_pos (x := 34) (by decide) (z1000 (by decide)).sz
  have f200 := fprint_pos (n := 1) (d := 200) (by decide) (by decide) (z1000 (by decide)).sz (z1000 (by decide)).sz (by decide +kernel) (by decide +kernel)
  have t8 : ((dec (8885 : Int).natAbs).toList == (⟨#[(56 : UInt8), (56 : UInt8), (56 : UInt8), (53 : UInt8)]⟩ : ByteArray).toList) = true := by kernel_rfl
  have t34 : ((dec (34 : Int).natAbs).toList == (⟨#[(51 : UInt8), (52 : UInt8)]⟩ : ByteArray).toList) = true := by kernel_rfl
  have t200 : ((dec (1 : Int).natAbs ++ (⟨#[(47 : UInt8)]⟩ : ByteArray) ++ dec 200).toList == (⟨#[(49 : UInt8), (47 : UInt8), (50 : UInt8), (48 : UInt8), (48 : UInt8)]⟩ : ByteArray).toList) = true := by kernel_rfl
  exact Ev.of (fun k => law16Wakes.eq k) (.call (wfrom_ev 100000 (by decide) (by decide)) <| .call pay12_ev <| .call (wfrom_ev 100 (by decide) (by decide)) <| .call p <| .call lr6_ev <| .call (wfrom_ev (-1) (by decide) (by decide)) <| .call (paybad_ev lr12_ev (by decide)) <|
    .pos rfl <| .call w8 <| .pos t8 <| .pos rfl <| .call w34 <| .pos t34 <| .call f200 <| .pos t200 <| .pos rfl <| .ret _) (fun F => rfl)
end TryzE
end
section
set_option linter.unusedSimpArgs false
set_option linter.unusedVariables false
namespace TryzE
open Go.Eng Go.Proofs Num KD
set_option maxRecDepth 1000000
set_option linter.unusedVariables false
/-! ## LevelAll -/
def zV (x : Int) : List Int × Bool := (R x.natAbs, decide (x < 0))
abbrev zA (x : Int) : AA := .v (.agg [.sl (.int .i64) (R x.natAbs), .bool (decide (x < 0))])
abbrev rA (n : Nat) : AA := .v (.c (.sl (.int .i64) (R n)))
theorem R_nil {n : Nat} : R n = [] ↔ n = 0 := dig_eq_nil (B := 10000) (by decide)
theorem zof_ev (n : Nat) (b : Bool) (x : Int) (hx : x = if b = true then -(n : Int) else n) : Ev 62 sh62 [rA n, bA b] (zV x) := by
  cases b with
  | false =>
    rw [if_neg (by decide)] at hx
    subst hx
    have e : zV (n : Int) = (R n, false) := by unfold zV; rw [decide_eq_false (by omega), Int.natAbs_natCast]
    rw [e]
    exact Ev.of (fun k => ref04Of.eq k _ _) (.neg (by decide) (.ret _)) (fun F => rfl)
  | true =>
    rw [if_pos rfl] at hx
    have e : zV x = (R n, decide (((R n).length : Int) > 0)) := by
      unfold zV
      rw [hx, Int.natAbs_neg, Int.natAbs_natCast]
      congr 1
      refine decide_eq_decide.2 ?_
      have h : (R n).length = 0 ↔ n = 0 := by rw [List.length_eq_zero_iff, R_nil]
      omega
    rw [e]
    exact Ev.of (fun k => ref04Of.eq k _ _) (.pos rfl (.ret _)) (fun F => rfl)
def amt (l : List Int) (b : Bool) : Int := if b = true then -(val (18446744073709551616 : Int) (l.take (min l.length 3))) else val (18446744073709551616 : Int) (l.take (min l.length 3))
theorem amt_lt (l : List Int) (b : Bool) (h : Dg (18446744073709551616 : Int) l) : (amt l b).natAbs < 18446744073709551616 ^ 3 := by
  have hp := h.take (min l.length 3)
  have hpl : (l.take (min l.length 3)).length ≤ 3 := by simp; omega
  have h0 := val_nonneg (B := (18446744073709551616 : Int)) (by decide) hp
  have h1 := val_lt (B := (18446744073709551616 : Int)) (by decide) hp
  have h2 : (18446744073709551616 : Int) ^ (l.take (min l.length 3)).length ≤ (18446744073709551616 : Int) ^ 3 := pow_mono (by decide) hpl
  have h3 : ((18446744073709551616 ^ 3 : Nat) : Int) = (18446744073709551616 : Int) ^ 3 := by rw [Int.natCast_pow]; rfl
  unfold amt
  split <;> omega
theorem amt_s0 (l : List Int) (b : Bool) (h : Dg (18446744073709551616 : Int) l) : S0 (amt l b).natAbs := by
  have h := amt_lt l b h
  rw [show 18446744073709551616 = 2 ^ 64 from rfl, ← Nat.pow_mul] at h
  exact s0i h (by decide)
theorem amount_ev {l : List Int} (b : Bool) (t : ByteArray) (x y z : Int) (h : Dg (18446744073709551616 : Int) l) : Ev 12 sh12 [.v (.agg [.sl (.int .u64) l, .bool b, .str t, .int .i64 x, .int .i64 y, .int .i64 z])] (wV (amt l b), zV (amt l b)) := by
  have hmin : minI (l.length : Int) 3 = ((min l.length 3 : Nat) : Int) := by unfold minI; split <;> omega
  have hp := h.take (min l.length 3)
  have hpl : (l.take (min l.length 3)).length ≤ 3 := by simp; omega
  have h0 := val_nonneg (B := (18446744073709551616 : Int)) (by decide) hp
  obtain ⟨n, hn⟩ : ∃ n : Nat, val (18446744073709551616 : Int) (l.take (min l.length 3)) = n := ⟨(val (18446744073709551616 : Int) (l.take (min l.length 3))).toNat, by omega⟩
  have ha : amt l b = if b = true then -(n : Int) else n := by unfold amt; rw [hn]
  have e : (l.take (minI (l.length : Int) 3).toNat) = l.take (min l.length 3) := by rw [hmin, Int.toNat_natCast]
  have n1 : Ev 61 sh61 [.v (.c (.sl (.int .u64) (l.take (minI (l.length : Int) 3).toNat)))] (L n) := by
    rw [e]; exact ⟨_, of_spec _ n hp hn (by omega)⟩
  have n2 : Ev 63 sh63 [.v (.c (.sl (.int .u64) (l.take (minI (l.length : Int) 3).toNat)))] (R n) := by
    rw [e]; exact rof_spec _ n hp hn (by omega)
  exact Ev.of (fun k => law16AskAmount.eq k _ _ _ _ _ _) (.pos (by rw [hmin]; omega) <| .call n1 <| .call (wof_ev n b _ ha) <| .call n2 <| .call (zof_ev n b _ ha) <| .ret _) (fun F => rfl)
theorem up_ge {a d : Nat} (hd : 0 < d) : a ≤ rndN 1 a d * d := by
  have h := Nat.div_add_mod a d
  have h2 := Nat.mod_lt a hd
  unfold rndN
  by_cases hr : a % d = 0
  · rw [if_neg (by simp [hr])]
    rw [hr, Nat.mul_comm] at h; omega
  · rw [if_pos ⟨hr, rfl⟩, Nat.add_mul, Nat.mul_comm (a / d) d]; omega
theorem down_eq {a d : Nat} : rndN 0 a d = a / d := by
  unfold rndN
  rw [if_neg (fun h => by exact absurd h.2 (by unfold more; simp))]
theorem Ct.of {f : Nat} {xs : List AA} {g : Nat → Option Res} {r : Res} (he : ∀ k, C (k + 1) f xs = g k) (h : Et g r) : ∃ k, C k f xs = some r := by
  obtain ⟨K, h⟩ := h
  exact ⟨K + 1, (he K).trans (h K (Nat.le_refl _))⟩
theorem sgZ_ge {x : Int} (h : 0 ≤ x) : decide (sgZ x ≥ 0) = true := by
  unfold sgZ
  by_cases h0 : x = 0
  · rw [if_pos h0]; rfl
  · rw [if_neg h0, if_neg (by omega)]; rfl
theorem sgZ_le {x : Int} (h : x ≤ 0) : decide (sgZ x ≤ 0) = true := by
  unfold sgZ
  by_cases h0 : x = 0
  · rw [if_pos h0]; rfl
  · rw [if_neg h0, if_pos (by omega)]; rfl
theorem all_j4 {x : Int} (hx : 0 ≤ x) (hb : x.natAbs < 18446744073709551616 ^ 3) (n : Int) (hn : 0 ≤ n ∧ n < 65536) : Et (fun k => law16LevelAll.j4 k n (wV x).1 (wV x).2) ⟨[(.v (.c (.bool true)))], []⟩ := by
  obtain ⟨X, rfl⟩ : ∃ X : Nat, x = X := ⟨x.toNat, by omega⟩
  rw [Int.natAbs_natCast] at hb
  have hb2 : X < 2 ^ 192 := hb
  obtain ⟨K, hK, hK0, hK1⟩ : ∃ K : Nat, Go.IntKind.i64.wrap ((1 : Int) + Go.IntKind.i64.wrap (n.tmod (1200 : Int))) = (K : Int) ∧ 1 ≤ K ∧ K ≤ 1200 := by
    have e1 : n.tmod 1200 = n % 1200 := Int.tmod_eq_emod_of_nonneg hn.1
    rw [e1, wi (x := n % 1200) (by omega) (by omega), wi (by omega) (by omega)]
    exact ⟨(1 + n % 1200).toNat, by omega, by omega, by omega⟩
  have sX : S0 X := s0i hb2 (by decide)
  have sXi : S0 ((X : Int)).natAbs := by rw [Int.natAbs_natCast]; exact sX
  have sK : S0 K := z1000 (by omega)
  have x0 : (0 : Int) ≤ (X : Int) := by omega
  have up := part_ev (x := (X : Int)) (n := K) (m := 1) x0 sXi.sz hK0 hK1 (by decide)
  have dn := part_ev (x := (X : Int)) (n := K) (m := 0) x0 sXi.sz hK0 hK1 (by decide)
  have py := pay_ev (m := 1) (e := 1) lr0_ev (level0_ev (a := (X : Int)) (ad := 1) (n := K) (by decide) sXi (z1000 (by decide)) hK0 hK1) x0 x0 (by omega) sXi.sz (by rw [Nat.one_mul]; exact sK) (by decide)
  have on := pay_ev (m := 1) (e := 12) lr75_ev (level_ev (a := (X : Int)) (rn := 3) (ad := 1) (rd := 40) (n := 1) (by decide) (by decide) (by decide) (by decide) (by decide) sXi (z1000 (by decide)) (by rw [Int.natAbs_mul, Int.natAbs_natCast]; exact s0i (b := 200) (by show X * 3 < _; omega) (by decide)) (z1000 (by decide)) (z1000 (by decide)) (z1000 (by decide))
    (by decide) (by decide) (powS_small (by decide) (by decide)) (powS_small (by decide) (by decide)) (z1000 (by decide))) x0 (by show (0 : Int) ≤ (X : Int) * 3 * 43; omega) (by decide) (by show Sz ((X : Int) * 3 * 43).natAbs; exact Sz.of (b := 200) (by omega) (by decide)) (z1000 (by decide)) (by decide)
  rw [Int.natAbs_natCast] at up dn
  rw [Nat.one_mul, Int.natAbs_natCast] at py
  have on : Ev 13 sh13 [wA (X : Int), sA ⟨#[(55 : UInt8), (46 : UInt8), (53 : UInt8)]⟩, iA 12, iA 1, iA 1] (wV (rndN 1 ((X : Int) * 3 * 43).natAbs 120 : Nat), 0) := on
  have onv : X ≤ rndN 1 ((X : Int) * 3 * 43).natAbs 120 := by
    have h := up_ge (a := ((X : Int) * 3 * 43).natAbs) (d := 120) (by decide)
    omega
  have ons : rndN 1 ((X : Int) * 3 * 43).natAbs 120 ≤ ((X : Int) * 3 * 43).natAbs / 120 + 1 := by unfold rndN; split <;> omega
  have upv := up_ge (a := X) (d := K) hK0
  have ups : rndN 1 X K ≤ X + 1 := by
    have := Nat.div_le_self X K
    unfold rndN; split <;> omega
  have dnv : rndN 0 X K * K ≤ X := by rw [down_eq]; exact Nat.div_mul_le_self X K
  have dns : rndN 0 X K ≤ X := by rw [down_eq]; exact Nat.div_le_self X K
  generalize rndN 1 ((X : Int) * 3 * 43).natAbs 120 = O at *
  generalize rndN 1 X K = U at *
  generalize rndN 0 X K = D at *
  have sn : ∀ {m : Nat}, m < 2 ^ 200 → S0 ((m : Int)).natAbs := fun h => by rw [Int.natAbs_natCast]; exact s0i h (by decide)
  have sU : S0 ((U : Int)).natAbs := sn (by omega)
  have sD : S0 ((D : Int)).natAbs := sn (by omega)
  have sO : S0 ((O : Int)).natAbs := sn (by omega)
  have m1 := wmul_ev (x := (U : Int)) (y := (K : Int)) sU.sz (sn (by omega)).sz
  have m2 := wmul_ev (x := (D : Int)) (y := (K : Int)) sD.sz (sn (by omega)).sz
  have c1 := wcmp_ev (x := (U : Int) * (K : Int)) (y := (X : Int)) (sU.mulN sK) sXi.sz
  have c2 := wcmp_ev (x := (D : Int) * (K : Int)) (y := (X : Int)) (sD.mulN sK) sXi.sz
  have c3 := wcmp_ev (x := (U : Int)) (y := (U : Int)) sU.sz sU.sz
  have c4 := wcmp_ev (x := (O : Int)) (y := (X : Int)) sO.sz sXi.sz
  have g1 : (X : Int) ≤ (U : Int) * (K : Int) := by exact_mod_cast upv
  have g2 : (D : Int) * (K : Int) ≤ (X : Int) := by exact_mod_cast dnv
  have wf := wfrom_ev (K : Int) (by omega) (by omega)
  rw [← sgZ_ge (x := (O : Int) - (X : Int)) (by omega)]
  refine .to (fun k => law16LevelAll.j4_eq k _ _ _) ?_
  rw [hK]
  exact .call up <| .call dn <| .call py <| .call on <| .call wf <| .call wakes16_ev <| .pos rfl <| .pos rfl <| .pos rfl <| .pos rfl <| .pos rfl <| .call m1 <| .call c1 <| .pos (sgZ_ge (by omega)) <| .call m2 <| .call c2 <| .pos (sgZ_le (by omega)) <| .call c3 <| .pos (by rw [Int.sub_self]; rfl) <| .call c4 <| .ret _
theorem levelAll_true (l : List Int) (b : Bool) (t : ByteArray) (x y z n : Int) (h : Dg (18446744073709551616 : Int) l) (hn : 0 ≤ n ∧ n < 65536) : ∃ k, C k 5 [.v (.agg [.sl (.int .u64) l, .bool b, .str t, .int .i64 x, .int .i64 y, .int .i64 z]), .v (.c (.int .u16 n))] = some ⟨[(.v (.c (.bool true)))], []⟩ := by
  have ha := amt_lt l b h
  by_cases hs : amt l b < 0
  · exact Ct.of (fun k => law16LevelAll.eq k _ _ _ _ _ _ _) (.call (amount_ev b t x y z h) <| .call (wsign_ev _) <| .pos (by rw [sgZ_neg, decide_eq_true hs]) <| .call (wneg_ev _) <| all_j4 (x := -(amt l b)) (by omega) (by rw [Int.natAbs_neg]; exact ha) n hn)
  · exact Ct.of (fun k => law16LevelAll.eq k _ _ _ _ _ _ _) (.call (amount_ev b t x y z h) <| .call (wsign_ev _) <| .neg (by rw [sgZ_neg, decide_eq_true_eq]; exact hs) <| all_j4 (x := amt l b) (by omega) ha n hn)
end TryzE
end
